/-
  LeastPlays: answers true, for every input.
-/
import Derived.Test.YtlcjgmehccopkaaLc5
import Derived.Test.YtlcjgmehccopkaaLa7
import Derived.Test.YtlcjgmehccopkaaLa8
import Derived.Test.YtlcjgmehccopkaaLa9
namespace Go.Proofs.Ytlcjgmehccopkaa
open Go.Vm Go.Vm.Le
namespace La
open Lp

/-- All patterns. -/
theorem allE : ∀ (p : Pat), 1 ≤ p.length → p.length ≤ 4 → Ends p ∧ AllW p (ways p)
  | [false], _, _ => ⟨nf, ef⟩
  | [true], _, _ => ⟨nt, et⟩
  | [false, false], _, _ => ⟨nff, eff⟩
  | [false, true], _, _ => ⟨nft, eft⟩
  | [true, false], _, _ => ⟨ntf, etf⟩
  | [true, true], _, _ => ⟨ntt, ett⟩
  | [false, false, false], _, _ => ⟨nfff, efff⟩
  | [false, false, true], _, _ => ⟨nfft, efft⟩
  | [false, true, false], _, _ => ⟨nftf, eftf⟩
  | [false, true, true], _, _ => ⟨nftt, eftt⟩
  | [true, false, false], _, _ => ⟨ntff, etff⟩
  | [true, false, true], _, _ => ⟨ntft, etft⟩
  | [true, true, false], _, _ => ⟨nttf, ettf⟩
  | [true, true, true], _, _ => ⟨nttt, ettt⟩
  | [false, false, false, false], _, _ => ⟨nffff, effff⟩
  | [false, false, false, true], _, _ => ⟨nffft, effft⟩
  | [false, false, true, false], _, _ => ⟨nfftf, efftf⟩
  | [false, false, true, true], _, _ => ⟨nfftt, efftt⟩
  | [false, true, false, false], _, _ => ⟨nftff, eftff⟩
  | [false, true, false, true], _, _ => ⟨nftft, eftft⟩
  | [false, true, true, false], _, _ => ⟨nfttf, efttf⟩
  | [false, true, true, true], _, _ => ⟨nfttt, efttt⟩
  | [true, false, false, false], _, _ => ⟨ntfff, etfff⟩
  | [true, false, false, true], _, _ => ⟨ntfft, etfft⟩
  | [true, false, true, false], _, _ => ⟨ntftf, etftf⟩
  | [true, false, true, true], _, _ => ⟨ntftt, etftt⟩
  | [true, true, false, false], _, _ => ⟨nttff, ettff⟩
  | [true, true, false, true], _, _ => ⟨nttft, ettft⟩
  | [true, true, true, false], _, _ => ⟨ntttf, etttf⟩
  | [true, true, true, true], _, _ => ⟨ntttt, etttt⟩
  | [], h, _ => absurd h (by decide)
  | _ :: _ :: _ :: _ :: _ :: _, _, h => absurd h (by simp)
-- THE ROUNDS' LOOP
theorem loopW (w0 : World) {n : Nat} {most : Int} : ∀ (p : Pat) ρ, (∃ Ks i, Jw n most p Ks i ρ) → ∀ todo a w, todo = .inLoop wb0 :: wk0 ∨ todo = .code (.loop wb0) :: wk0 → SRel ⟨w0, [], GW⟩ ρ ((W p).st todo) a w → Goes Try.prog 5 (fun v w' => QL v ∧ Framed w0 w') todo a w := by
  refine loop_goesI (n := 4000) (g := gW) (Q := QL) (β := ⟨w0, [], GW⟩) noCount noExt (sp5_ok w0) follows rfl W (fun p ρ => ∃ Ks i, Jw n most p Ks i ρ) (fun ρ => ((n : Int) - ρ.I 1).toNat) (fun p ρ hJ hH hcs hG ih => ?_)
  obtain ⟨Ks, i, j⟩ := hJ
  obtain ⟨hE, hA⟩ := allE p j.p1 j.p4
  by_cases hi : i < n
  · obtain ⟨w, hw, hf, hn⟩ := j.way hG hi
    obtain ⟨ls, hls, hsum⟩ := Option.map_eq_some_iff.1 (hA.mem w hw)
    refine ⟨true, [W (after p w)], _, _, CRel_app.2 ⟨hf, hcs⟩, by rw [hls]; rfl, can_good hsum fun σ hσ => nextS (T := W (after p w)) rfl fun ρ' hle hG' => ?_⟩
    obtain ⟨Ks', j'⟩ := hn ρ' σ hle hσ
    exact ⟨hG', j'.csW, fun a w r => ih _ _ (by rw [j'.i1, j.i1]; omega) ⟨Ks', i + 1, j'⟩ _ a w (.inl rfl) r⟩
  · exact finN w0 hE j (by omega) hcs hG
-- THE START
def F5 : Nat → Int → Int → Int := fun k => if k = 80 then fun x _ => sLf x else if k = 81 then fun x _ => takeC x else if k = 82 then giveC else if k = 83 then fun x n => if n ∈ sK x then 1 else 0 else if k = 84 then fun x _ => ((sK x).length : Int) else if k = 85 then fun x _ => sHigh x else if k = 86 then fun x _ => if sLf x = 0 then 20 else 0 else if k = 87 then fun x n => if n ∈ sK x then 0 else 21 else if k = 88 then hasF else if k = 89 then lfF else if k = 91 then restF else restN
def env5 (most : Int) (n cap o : Nat) (m : Int) (v : Value) (b : Nat) : Env := ⟨fun i => if i = 60 then most else if i = 61 then n else if i = 62 then o else if i = 63 then cap else if i = 64 then m else 0, fun _ => false, fun _ => default, fun _ => v, fun i => if i = 0 then some b else none, F5⟩
theorem GW_5 {most : Int} {n cap o : Nat} {m : Int} {v : Value} {b : Nat} : GW.at (env5 most n cap o m v b) := ⟨⟨rfl, rfl, rfl, rfl, rfl, rfl, rfl, rfl⟩, rfl, rfl, rfl, rfl⟩
theorem hrel5 (w : World) (most : Int) (n cap o : Nat) (m : Int) (v : Value) (b : Nat) : HRel ⟨w, [], GW⟩ (env5 most n cap o m v b) .leaf 1 w :=
  HRel.ro [] (fun p hp' => by cases hp') (fun i hi => if_neg (by omega)) GW_5
theorem hrel5r (w : World) (most : Int) (n cap o : Nat) (m : Int) (v : Value) (b : Nat) (hrow : RowAt w b o kOp n v) : HRel ⟨w, [], GW⟩ (env5 most n cap o m v b) (ofP [(0, opsB)]) 1 w := HRel.row (a := 0) hrow rfl rfl (fun _ => rfl) GW_5
def zeroA : AVal := .slice 0 (.var 62) (.lit 0) (.var 63)
theorem args5D (most : Int) (n cap o : Nat) (m : Int) (v : Value) (b : Nat) : AVal.denL (env5 most n cap o m v b) args5 = some [.int .i64 most, .slice (some ⟨b, o, none⟩) n cap, .int .i64 m] :=
  denL3 rfl (den_slice_of rfl rfl rfl rfl) rfl
theorem argsZD (most : Int) (cap o : Nat) (m : Int) (v : Value) (b : Nat) : AVal.denL (env5 most 0 cap o m v b) [iV 60, zeroA, iV 64] = some [.int .i64 most, .slice (some ⟨b, o, none⟩) 0 cap, .int .i64 m] :=
  denL3 rfl (den_slice_of rfl rfl rfl rfl) rfl
-- THE OTHER WAYS
def c00 : IT := .un 3 (.un 3 (.lit 0) (.var 60)) (.lit 0)
def fLong (b : Bool) : Cs := [(.cmp .gtr (.var 61) (.lit 100), b)]
def fNeg : Cs := [(.cmp .lss (.var 60) (.lit 0), true)]
def fBig : Cs := [(.cmp .lss (.var 60) (.lit 0), false), (.cmp .gtr (.var 60) (.lit 65535), true)]
def fIn : Cs := [(.cmp .lss (.var 60) (.lit 0), false), (.cmp .gtr (.var 60) (.lit 65535), false), (.cmp .leq (.var 60) (.lit 65535), true), (.cmp .geq (.var 60) (.lit 0), true), (.cmp .neq (.fn 84 c00 (.lit 0)) (.lit 0), false), (.cmp .neq (.fn 85 c00 (.lit 0)) (.lit 0), false), (.cmp .eql (.fn 83 c00 (.var 64)) (.lit 1), false)]
noncomputable def AllT (args : List AVal) (H : Heap) (cs : Cs) : Prop := (run Try.prog [] sp5 4000 false 5 (entry Try.f5 (Try.f5.body.getD .ret) args H 1 cs)).map (·.all (leafB (.lit true))) = some true
theorem run_long : AllT args5 (ofP [(0, opsB)]) (fLong true) := by unfold AllT; kernel_rfl
theorem run_neg : AllT args5 (ofP [(0, opsB)]) (fLong false ++ fNeg) := by unfold AllT; kernel_rfl
theorem run_big : AllT args5 (ofP [(0, opsB)]) (fLong false ++ fBig) := by unfold AllT; kernel_rfl
theorem nil_neg : AllT [iV 60, .sliceNil, iV 64] .leaf fNeg := by unfold AllT; kernel_rfl
theorem nil_big : AllT [iV 60, .sliceNil, iV 64] .leaf fBig := by unfold AllT; kernel_rfl
theorem nil_in : AllT [iV 60, .sliceNil, iV 64] .leaf fIn := by unfold AllT; kernel_rfl
theorem zero_neg : AllT [iV 60, zeroA, iV 64] .leaf fNeg := by unfold AllT; kernel_rfl
theorem zero_big : AllT [iV 60, zeroA, iV 64] .leaf fBig := by unfold AllT; kernel_rfl
theorem zero_in : AllT [iV 60, zeroA, iV 64] .leaf fIn := by unfold AllT; kernel_rfl
theorem fIn_ok {ρ : Env} {most : Int} (hG : GW.at ρ) (e : ρ.I 60 = most) (m0 : 0 ≤ most) (m1 : most ≤ 65535) : CRel ρ fIn := by
  obtain ⟨⟨_, _, _, g83, g84, g85, _, _⟩, _⟩ := hG
  have e0 := varD e
  have ec : c00.den ρ = some (encL [most, 0]) := by
    rw [show c00 = .un 3 (.un 3 (.lit 0) (.var 60)) (.lit 0) from rfl, unD (unD (litD 0) e0) (litD 0)]
    show some (encL (decL (encL (decL 0 ++ [most])) ++ [0])) = _
    rw [decL_encL, decL_zero]; rfl
  have ek : sK (encL [most, 0]) = [] := sK_enc most 0 []
  have eh : sHigh (encL [most, 0]) = 0 := sHigh_enc most 0 []
  have e84 : (IT.fn 84 c00 (.lit 0)).den ρ = some 0 := by rw [fnD ec (litD 0), g84]; simp only [ek]; rfl
  have e85 : (IT.fn 85 c00 (.lit 0)).den ρ = some 0 := by rw [fnD ec (litD 0), g85]; simp only [eh]
  have e83 : (IT.fn 83 c00 (.var 64)).den ρ = some 0 := by rw [fnD ec (varD rfl), g83]; simp only [ek]; rfl
  exact c1 (lssF e0 (litD 0) m0) (c1 (gtrF e0 (litD 65535) m1) (c1 (leqT e0 (litD 65535) m1) (c1 (geqT e0 (litD 0) m0) (c1 (neqF e84 (litD 0) rfl) (c1 (neqF e85 (litD 0) rfl) (c1 (eqlF e83 (litD 1) (by omega)) c0))))))
theorem allT {W : World} {ρ : Env} {args : List AVal} {xs : List Value} {H : Heap} {cs : Cs} (h : AllT args H cs) (hx : AVal.denL ρ args = some xs) (hr : HRel ⟨W, [], GW⟩ ρ H 1 W) (hc : CRel ρ cs) : Calls Try.prog 5 xs.toArray W (fun e w' => e = .returned (.bool true) ∧ Framed W w') :=
  calls_true (β := ⟨W, [], GW⟩) noExt (sp5_ok W) rfl Try.func5 rfl h hx hr hc
theorem plays_nil (W : World) (most m : Int) : Calls Try.prog 5 #[.int .i64 most, .slice none 0 0, .int .i64 m] W (fun e w' => e = .returned (.bool true) ∧ Framed W w') := by
  have hr := hrel5 W most 0 0 0 m undef 0
  have e0 : (IT.var 60).den (env5 most 0 0 0 m undef 0) = some most := rfl
  by_cases h1 : most < 0
  · exact allT nil_neg (denL3 rfl rfl rfl) hr (c1 (lssT e0 (litD 0) h1) c0)
  · by_cases h2 : 65535 < most
    · exact allT nil_big (denL3 rfl rfl rfl) hr (c1 (lssF e0 (litD 0) (by omega)) (c1 (gtrT e0 (litD 65535) h2) c0))
    · exact allT nil_in (denL3 rfl rfl rfl) hr (fIn_ok (most := most) GW_5 rfl (by omega) (by omega))
theorem plays_zero (W : World) (most m : Int) (b o cap : Nat) : Calls Try.prog 5 #[.int .i64 most, .slice (some ⟨b, o, none⟩) 0 cap, .int .i64 m] W (fun e w' => e = .returned (.bool true) ∧ Framed W w') := by
  have hr := hrel5 W most 0 cap o m undef b
  have hx := argsZD most cap o m undef b
  have e0 : (IT.var 60).den (env5 most 0 cap o m undef b) = some most := rfl
  by_cases h1 : most < 0
  · exact allT zero_neg hx hr (c1 (lssT e0 (litD 0) h1) c0)
  · by_cases h2 : 65535 < most
    · exact allT zero_big hx hr (c1 (lssF e0 (litD 0) (by omega)) (c1 (gtrT e0 (litD 65535) h2) c0))
    · exact allT zero_in hx hr (fIn_ok (most := most) GW_5 rfl (by omega) (by omega))
theorem plays_row (W0 : World) (most m : Int) (v : Value) (n b o cap : Nat) (hn : 1 ≤ n) (hrow : RowAt W0 b o kOp n v) : Calls Try.prog 5 #[.int .i64 most, .slice (some ⟨b, o, none⟩) n cap, .int .i64 m] W0 (fun e w' => e = .returned (.bool true) ∧ Framed W0 w') := by
  have hr := hrel5r W0 most n cap o m v b hrow
  have hx := args5D most n cap o m v b
  have e0 : (IT.var 60).den (env5 most n cap o m v b) = some most := rfl
  have e1 : (IT.var 61).den (env5 most n cap o m v b) = some (n : Int) := rfl
  by_cases hl : 100 < n
  · exact allT run_long hx hr (c1 (gtrT e1 (litD 100) (by omega)) c0)
  · have fl : CRel (env5 most n cap o m v b) (fLong false) := c1 (gtrF e1 (litD 100) (by omega)) c0
    by_cases h1 : most < 0
    · exact allT run_neg hx hr (CRel_app.2 ⟨fl, c1 (lssT e0 (litD 0) h1) c0⟩)
    · by_cases h2 : 65535 < most
      · exact allT run_big hx hr (CRel_app.2 ⟨fl, c1 (lssF e0 (litD 0) (by omega)) (c1 (gtrT e0 (litD 65535) h2) c0)⟩)
      · obtain ⟨ls, hls, hsum⟩ := Option.map_eq_some_iff.1 law_in
        have hc : CRel (env5 most n cap o m v b) csA := c1 (geqT e1 (litD 1) (by omega)) (c1 (leqT e1 (litD 100) (by omega)) (c1 (gtrF e1 (litD 100) (by omega)) (c1 (lssF e0 (litD 0) (by omega)) (c1 (gtrF e0 (litD 65535) (by omega)) (c1 (leqT e0 (litD 65535) (by omega)) (c1 (geqT e0 (litD 0) (by omega)) c0))))))
        refine (calls_sums (β := ⟨W0, [], GW⟩) (Q := QL) (g := gW) (Ts := [W [false]]) (pl := true) (n := 4000) (c := Try.f5.body.getD .ret) (sums := ls.filterMap (sumL gW [W [false]])) noCount noExt (sp5_ok W0) follows rfl Try.func5 rfl (by rw [hls]; rfl) hx hr hc (can_good hsum fun σ hσ => nextS (T := W [false]) rfl fun ρ' hle hG' => ?_)).mono fun _ _ ⟨_, he, hv, hf⟩ => ⟨by rw [he, hv], hf⟩
        have look : ∀ k ∈ ksW, lk σ.I k = lk [(1, IT.lit 0), (40, .un 3 (.un 3 (.lit 0) (.var 60)) (.lit 0)), (48, .lit 0)] k := fun k hk => by
          rw [← lk_can σ.I ksW k hk]
          exact congrArg (fun s : Sub => lk s.I k) hσ
        have r60 : ρ'.I 60 = most := by rw [hle.i]; rfl
        have r61 : ρ'.I 61 = (n : Int) := by rw [hle.i]; rfl
        have ex : (σ.app ρ').I 40 = encL [most, 0] := by
          refine sbI (look 40 (by decide)) ((unD (unD (litD 0) (varD r60)) (litD 0)).trans ?_)
          show some (encL (decL (encL (decL 0 ++ [most])) ++ [0])) = _
          rw [decL_encL, decL_zero]; rfl
        have eh : (σ.app ρ').I 48 = 0 := sbI (look 48 (by decide)) rfl
        have j : Jw n most [false] (fun _ => []) 0 (σ.app ρ') := by
          refine ⟨sbI (look 1 (by decide)) rfl, Nat.zero_le _, by omega, by rw [app_I (look 60 (by decide))]; exact r60, by rw [app_I (look 61 (by decide))]; exact r61, by omega, by omega, hn, Nat.le_refl _, by decide, fun q hq => ?_⟩
          obtain rfl : q = 0 := by simpa using hq
          exact ⟨by rw [show 40 + 0 = 40 from rfl, show 48 + 0 = 48 from rfl, ex, eh], (fun e => by cases e), fun _ => rfl, List.nodup_nil, Nat.zero_le _, by rw [show 48 + 0 = 48 from rfl, eh]; exact Int.le_refl _⟩
        exact ⟨hG', j.csW, fun a w r => loopW W0 _ _ ⟨_, 0, j⟩ _ a w (.inr rfl) r⟩
end La
end Go.Proofs.Ytlcjgmehccopkaa
