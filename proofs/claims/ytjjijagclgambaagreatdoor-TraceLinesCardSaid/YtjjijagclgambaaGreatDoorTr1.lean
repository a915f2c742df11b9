/-
  TraceLines (law 39) holds of every input (its row and its card): the log line of any batch, and which kinds any letters have, are as the document says.
-/
import Derived.Test.YtjjijagclgambaaGreatDoorTf3
import Derived.Test.YtjjijagclgambaaGreatDoorTl9
import Derived.Test.YtjjijagclgambaaGreatDoorRw
import Derived.Lib.LaidTab
import Derived.MakeChecks
import Derived.HandedShaped
import Derived.Shelf.Vars
import Derived.LaidLaws
namespace Go.Proofs.YtjjijagclgambaaGreatDoor
open Go.ChangeShapes Go.WideShapes Go.ChangeAt Go.RowKit Go.Vm Go.Joins
set_option linter.unusedVariables false
namespace Txt

-- THE LAW, OF VALUES
theorem sp3_ok {w : World} (hT : TabW w) (hM : MaxW w) {d : Dw} {k : Nat} (ok : DwOk d k) : CallOk Tryz.prog ⟨w, [], GW d⟩ (sp3 k) := spL_ok fun p hp => by
  simp only [List.mem_cons, List.not_mem_nil, or_false] at hp
  rcases hp with rfl | rfl | rfl | rfl
  · intro args H nl cs ls ρ w1 xs hr hx hh hc
    dsimp only [spTrue] at hr
    split at hr
    · cases hr
      obtain rfl : [] = xs := Option.some.inj hx
      exact spV_ok (first4 (hM.of rfl hh)) rfl hh hc
    · cases hr
  · exact spLn_ok ok (fun hh x hx => line5n (TabW.of hT rfl hh) (hM.of rfl hh) hx ok.hh) fun hh b o q hR => line5 (TabW.of hT rfl hh) (hM.of rfl hh) ok.hh ok.n50 ok.ok hR
  · exact spLn_ok ok (fun hh x hx => line6n hx ok.hh) fun hh b o q hR => line6 ok.hh ok.n50 ok.ok hR
  · exact spKd_ok
section
variable {d : Dw} {k : Nat}
theorem lenS_gt {ρ : Env} (hG : (GW d).at ρ) (h : 500 < d.s.size) : CRel ρ [q9 .gtr lenS (.lit 500) true] := qD (lenS_den hG) (litD 500) (by simp [intCmp]; omega) c0
theorem law_ok {W : World} (hT : TabW W) (hM : MaxW W) (ok : DwOk d k) {o q b : Nat} {xs : List Value} (hx : AVal.denL (envW d o q b) [batL k, .str (.var 31)] = some xs) (hr : HRel ⟨W, [], GW d⟩ (envW d o q b) (ofP (kE k)) 480 W) :
    Calls Tryz.prog 3 xs.toArray W (fun e w' => e = .returned (.bool true) ∧ Framed W w') := by
  have hG := envW_G d o q b
  have hs := ok.s5
  have hn := ok.n50
  have hcs : CRel (envW d o q b) (csE3 k ++ [q9 .leq lenS (.lit 500) true]) := by
    refine CRel_app.2 ⟨?_, qD (lenS_den hG) (litD 500) (by simp [intCmp]; omega) c0⟩
    unfold csE3
    cases Nat.beq k 2 with
    | false => exact c0
    | true => exact qD (varD (show (envW d o q b).I 36 = (d.n : Int) from rfl)) (litD 50) (by simp [intCmp]; omega) c0
  refine (callP (β := ⟨W, [], GW d⟩) (ρ := envW d o q b) (Q := QT) (sp3_ok hT hM ok) rfl Tryz.func3 rfl (en3 k ok.k3) hx hr hcs (Go.Vm.one (nextS rfl fun ρ' hle hG' => ?_))).mono fun e w' ⟨x, he, hx, hf⟩ => ⟨by rw [he, hx], hf⟩
  have hGn : (GW d).at ((s0F k).app ρ') := wKeep (fun m hm => by
    show lk ((9, .lit 0) :: (List.range 7).map fun i => (20 + i, IT.lit 0)) m = none
    rw [lk_cons, if_neg (by omega), lk_map (fun _ => rfl) _ _ fun y hy => by have := List.mem_range.1 hy; omega]) rfl rfl hG'
  have jn : JF d.s 0 ((s0F k).app ρ') := by
    refine ⟨sbI (t := .lit 0) rfl rfl, Nat.zero_le _, fun a ha => ?_⟩
    have hl : lk (s0F k).I (20 + a) = some (.lit 0) := by
      match a, ha with
      | 0, _ => rfl
      | 1, _ => rfl
      | 2, _ => rfl
      | 3, _ => rfl
      | 4, _ => rfl
      | 5, _ => rfl
      | 6, _ => rfl
    refine sbI hl ?_
    unfold cnt; rfl
  exact ⟨hGn, jn.cs ok hGn, fun a w' r => loop3 ok (sp3_ok hT hM ok) () _ ⟨0, jn⟩ _ a w' (.inr rfl) r⟩
def sp3a : CallF := spL [(4, spTrue)]
theorem sp3a_ok {w : World} (hM : MaxW w) : CallOk Tryz.prog ⟨w, [], GW d⟩ sp3a := spL_ok fun p hp => by
  obtain rfl := List.mem_singleton.1 hp
  intro args H nl cs ls ρ w1 xs hr hx hh hc
  dsimp only [spTrue] at hr
  split at hr
  · cases hr
    obtain rfl : [] = xs := Option.some.inj hx
    exact spV_ok (first4 (hM.of rfl hh)) rfl hh hc
  · cases hr
end
theorem big_n : (run Tryz.prog [] sp3a 4000 false 3 (entry Tryz.f3 (Tryz.f3.body.getD .ret) [batL 2, .str (.var 31)] (ofP (kE 2)) 480 [q9 .gtr (.var 36) (.lit 50) true])).map (·.all (retIs (.bool (.lit true)))) = some true := by kernel_rfl
noncomputable def bigS (k : Nat) : Option Bool := (run Tryz.prog [] sp3a 4000 false 3 (entry Tryz.f3 (Tryz.f3.body.getD .ret) [batL k, .str (.var 31)] (ofP (kE k)) 480 (cond (Nat.beq k 2) [q9 .gtr (.var 36) (.lit 50) false] [] ++ [q9 .gtr lenS (.lit 500) true]))).map (·.all (retIs (.bool (.lit true))))
theorem big_s0 : bigS 0 = some true := by kernel_rfl
theorem big_s1 : bigS 1 = some true := by kernel_rfl
theorem big_s2 : bigS 2 = some true := by kernel_rfl
theorem big_s : ∀ k, k < 3 → bigS k = some true
  | 0, _ => big_s0
  | 1, _ => big_s1
  | 2, _ => big_s2
theorem law_all {W : World} (hT : TabW W) (hM : MaxW W) {d : Dw} {k : Nat} (hk : k < 3) (hh : d.h < 18446744073709551616) (hok : OkRow d.v) (hno : k ≠ 2 → d.n = 0 ∧ d.v = undef) {o q b : Nat} {xs : List Value} (hx : AVal.denL (envW d o q b) [batL k, .str (.var 31)] = some xs) (hr : HRel ⟨W, [], GW d⟩ (envW d o q b) (ofP (kE k)) 480 W) :
    Calls Tryz.prog 3 xs.toArray W (fun e w' => e = .returned (.bool true) ∧ Framed W w') := by
  have hG := envW_G d o q b
  have e36 : (IT.var 36).den (envW d o q b) = some (d.n : Int) := varD rfl
  by_cases hn : d.n ≤ 50
  · by_cases hs : d.s.size ≤ 500
    · exact law_ok hT hM ⟨hk, hh, hn, hok, hs, hno⟩ hx hr
    · refine calls_ret (β := ⟨W, [], GW d⟩) noExt (sp3a_ok hM) rfl Tryz.func3 rfl (big_s k hk) hx hr (CRel_app.2 ⟨?_, lenS_gt hG (by omega)⟩) fun ρ' hle => rfl
      cases Nat.beq k 2 with
      | false => exact c0
      | true => exact qD e36 (litD 50) (by simp [intCmp]; omega) c0
  · obtain rfl : k = 2 := by
      by_cases h2 : k = 2
      · exact h2
      · have := (hno h2).1
        omega
    exact calls_ret (β := ⟨W, [], GW d⟩) noExt (sp3a_ok hM) rfl Tryz.func3 rfl big_n hx hr (qD e36 (litD 50) (by simp [intCmp]; omega) c0) fun ρ' hle => rfl
theorem args_den {d : Dw} {o q b : Nat} (k : Nat) {x : Value} (hx : (kA k).den (envW d o q b) = some x) : AVal.denL (envW d o q b) [batL k, .str (.var 31)] = some [.agg #[.int .u64 d.h, x], .string d.s] := by
  have e1 : (AVal.int .u64 (.var 35)).den (envW d o q b) = some (.int .u64 d.h) := rfl
  refine denL2 ?_ rfl
  simp only [batL, AVal.den, denL2 e1 hx, Option.map_some]
theorem law_none {W : World} (hT : TabW W) (hM : MaxW W) {h : Nat} (hh : h < 18446744073709551616) (s : ByteArray) {x : Value} (hx : NoSl x) : Calls Tryz.prog 3 #[.agg #[.int .u64 h, x], .string s] W (fun e w' => e = .returned (.bool true) ∧ Framed W w') := by
  rcases hx with rfl | ⟨b, o, q, rfl⟩
  · exact law_all (d := ⟨h, undef, 0, s⟩) (k := 0) (o := 0) (q := 0) (b := 0) hT hM (by omega) hh undef_ok (fun _ => ⟨rfl, rfl⟩) (args_den 0 rfl) (HRel.ro [] (fun p hp => by cases hp) (fun i hi => if_neg (by omega)) (envW_G _ _ _ _))
  · exact law_all (d := ⟨h, undef, 0, s⟩) (k := 1) (o := o) (q := q) (b := b) hT hM (by omega) hh undef_ok (fun _ => ⟨rfl, rfl⟩) (args_den 1 (den_slice_of (n := 0) rfl rfl rfl rfl)) (HRel.ro [] (fun p hp => by cases hp) (fun i hi => if_neg (by omega)) (envW_G _ _ _ _))
theorem law_row {W : World} (hT : TabW W) (hM : MaxW W) {h : Nat} (hh : h < 18446744073709551616) (s : ByteArray) {b o q n : Nat} {v : Value} (hv : OkRow v) (hR : RowAt W b o ks8 n v) : Calls Tryz.prog 3 #[.agg #[.int .u64 h, .slice (some ⟨b, o, none⟩) n q], .string s] W (fun e w' => e = .returned (.bool true) ∧ Framed W w') :=
  law_all (d := ⟨h, v, n, s⟩) (k := 2) (o := o) (q := q) (b := b) hT hM (by omega) hh hv (fun h => absurd rfl h) (args_den 2 (den_slice_of rfl rfl rfl rfl))
    (HRel.ro [(0, .arr (.var 0) ks8 50 (.var 36) (.var 62) none)] (fun p hp => by
      obtain rfl := List.mem_singleton.1 hp
      obtain ⟨ob, h1, h2⟩ := hR.rel (ρ := envW ⟨h, v, n, s⟩ o q b) (a := 0) (n := .var 36) (off := .var 62) rfl rfl rfl 50
      exact ⟨b, ob, rfl, h1, h2⟩) (fun i hi => if_neg (by omega)) (envW_G _ _ _ _))
end Txt
end Go.Proofs.YtjjijagclgambaaGreatDoor
