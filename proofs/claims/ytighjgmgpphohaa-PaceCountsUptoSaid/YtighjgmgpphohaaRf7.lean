/- The law (4): great, walked. -/
import Derived.Test.YtighjgmgpphohaaGr3
section
namespace Go.Proofs.Ytighjgmgpphohaa
open Go.Vm Go.Vm.Le Go.Vm.Mb
namespace Gr
variable {w : World}
def tot (R1 R2 : RowsW false w) (X Y : LenV) : Nat := R1.sum R1.Ws.length + (10 + X.n + Y.n) + R2.sum R2.Ws.length
def RGr (w : World) (b : Bool) : Value -> World -> Prop := fun x w' => x = .bool b /\ Framed w w'
theorem add_den {ρ : Env} {a b : IT} {x y : Nat} (h : a.den ρ = some (x : Int)) (g : b.den ρ = some (y : Int)) (hx : x + y < 4611686018427387904) : (IT.bin .add .i64 a b).den ρ = some ((x + y : Nat) : Int) := by
 simp only [IT.den, h, g, intBin]
 rw [wrap_ok (by omega) (by omega)]
 rfl
theorem getD0 {ρ : Env} {t : IT} {z : Int} (h : t.den ρ = some z) : (t.den ρ).getD 0 = z := by rw [h]; rfl
theorem loop_B (R1 R2 : RowsW false w) (X Y : LenV) (hT : tot R1 R2 X Y < 4611686018427387904) :
 ∀ ρ, (∃ i : Nat, i <= R2.Ws.length /\ ρ.I 203 = (i : Int) /\ ρ.I 200 = ((R1.sum R1.Ws.length + (10 + X.n + Y.n) + R2.sum i : Nat) : Int)) -> ∀ todo a w', todo = .inLoop gb2 :: gk2 ∨ todo = .code (.loop gb2) :: gk2 -> SRel ⟨w, noO, GG R1 R2 X Y⟩ ρ (tB.st todo) a w' -> Goes Try.prog 21 (RGr w (decide (2000 < tot R1 R2 X Y))) todo a w' := by
 refine loop_goesO (β := ⟨w, noO, GG R1 R2 X Y⟩) noCount noExt (spG_ok R1 R2 X Y) follows run_b (fun ρ => ∃ i : Nat, i <= R2.Ws.length /\ ρ.I 203 = (i : Int) /\ ρ.I 200 = ((R1.sum R1.Ws.length + (10 + X.n + Y.n) + R2.sum i : Nat) : Int)) (fun ρ => R2.Ws.length - (ρ.I 203).toNat) (fun ρ hJ hcs hG ih s hs => ?_)
 obtain ⟨i, hi, j1, j2⟩ := hJ
 have hG0 : GG R1 R2 X Y ρ.I ρ.B ρ.S ρ.V ρ.F := hG
 have g81 := hG0.1.2.2.2.2.2.1
 have g73 := hG0.1.2.2.2.2.1
 have d1 : ∀ {ρ' : Env}, ρ.Le ρ' -> (IT.var 203).den ρ' = some (i : Int) := fun h => by show some _ = _; rw [h.i, j1]
 have d2 : ∀ {ρ' : Env}, ρ.Le ρ' -> (IT.var 200).den ρ' = some ((R1.sum R1.Ws.length + (10 + X.n + Y.n) + R2.sum i : Nat) : Int) := fun h => by show some _ = _; rw [h.i, j2]
 have d3 : ∀ {ρ' : Env}, ρ.Le ρ' -> (IT.var 73).den ρ' = some (R2.Ws.length : Int) := fun h => by show some _ = _; rw [h.i]; exact congrArg some g73
 have d4 : ∀ {ρ' : Env}, ρ.Le ρ' -> (IT.fn 81 (.var 203) (.lit 0)).den ρ' = some ((R2.el (R2.Ws.getD i (.slice none 0 0)) : Nat) : Int) := fun h => by
  rw [fnD (d1 h) (litD 0), h.f, g81]
  simp only [RowsW.f, Int.toNat_natCast]
 have d10 : ∀ {ρ' : Env}, (IT.lit 10).den ρ' = some ((10 : Nat) : Int) := fun {_} => rfl
 have d01 : ∀ {ρ' : Env}, (IT.lit 1).den ρ' = some ((1 : Nat) : Int) := fun {_} => rfl
 have hle1 : R2.sum i <= R2.sum R2.Ws.length := R2.sum_le hi
 unfold tot at hT
 have next : ∀ {cs : Cs} {t : IT} {ρ' : Env}, ρ.Le ρ' -> GP.at (GG R1 R2 X Y) ρ' -> i < R2.Ws.length -> t.den ρ' = some ((R1.sum R1.Ws.length + (10 + X.n + Y.n) + R2.sum (i + 1) : Nat) : Int) ->
  GP.at (GG R1 R2 X Y) (Go.Vm.Sub.app ⟨[(200, t), (73, (.var 73)), (203, (.bin .add .i64 (.var 203) (.lit 1))), (67, (.var 67))], [], [], [], [(0, 0)]⟩ ρ') /\ CRel (Go.Vm.Sub.app ⟨[(200, t), (73, (.var 73)), (203, (.bin .add .i64 (.var 203) (.lit 1))), (67, (.var 67))], [], [], [], [(0, 0)]⟩ ρ') tB.cs ∧
  ∀ a w', SRel ⟨w, noO, GG R1 R2 X Y⟩ (Go.Vm.Sub.app ⟨[(200, t), (73, (.var 73)), (203, (.bin .add .i64 (.var 203) (.lit 1))), (67, (.var 67))], [], [], [], [(0, 0)]⟩ ρ') (tB.st (.inLoop gb2 :: gk2)) a w' -> Goes Try.prog 21 (RGr w (decide (2000 < tot R1 R2 X Y))) (.inLoop gb2 :: gk2) a w' := fun {cs t ρ'} hle hG' hlt ht => by
  have hL : R2.Ws.length < 4611686018427387904 := by
   have : ∀ k, k <= R2.sum k := fun k => by
    induction k with
    | zero => exact Nat.le_refl _
    | succ k ih => simp only [RowsW.sum]; omega
   have := this R2.Ws.length
   omega
  have e1 : (IT.bin .add .i64 (.var 203) (.lit 1)).den ρ' = some ((i + 1 : Nat) : Int) := add_den (d1 hle) d01 (by omega)
  refine ⟨keep_app2 (GG_keep R1 R2 X Y) rfl hG', ?_, fun a w' r => ih _ ?_ ⟨i + 1, by omega, getD0 e1, getD0 ht⟩ _ a w' (.inl rfl) r⟩
  · simp only [tB, csB, CRel_cons, CRel_nil, and_true]
    exact geqT (x := ((i + 1 : Nat) : Int)) (congrArg some (getD0 e1)) (litD 0) (by omega)
  · show R2.Ws.length - (((IT.bin .add .i64 (.var 203) (.lit 1)).den ρ').getD 0).toNat < _
    rw [getD0 e1, j1]; omega
 have ltn : ∀ {ρ' : Env} {b : Bool}, ρ.Le ρ' -> (BT.cmp .lss (.var 203) (.var 73)).den ρ' = some b -> b = decide (i < R2.Ws.length) := fun {ρ' b} hle h => by
  rw [cmpD (d1 hle) (d3 hle)] at h
  simp only [intCmp, Option.some.injEq] at h
  rw [<- h]
  by_cases hq : i < R2.Ws.length
  · simp [hq]
  · simp [hq]
 have s1 : i < R2.Ws.length -> R2.sum (i + 1) <= R2.sum R2.Ws.length := fun h => R2.sum_le h
 have s2 : R2.sum (i + 1) = R2.sum i + (10 + R2.el (R2.Ws.getD i (.slice none 0 0))) := rfl
 simp only [sums_b, List.mem_cons, List.not_mem_nil, or_false] at hs
 rcases hs with rfl | rfl | rfl | rfl | rfl
 · refine ⟨trivial, fun ρ' hle hc T hTT hG' => ?_⟩
   obtain rfl : tB = T := Option.some.inj hTT
   simp only [CRel_cons, CRel_nil, and_true] at hc
   have hlt : i < R2.Ws.length := by simpa using (ltn hle hc.2.2.1).symm
   have h0 : R2.el (R2.Ws.getD i (.slice none 0 0)) = 0 := by
    have h1 := hc.1
    rw [cmpD (d4 hle) (litD 0)] at h1
    simp only [intCmp, Option.some.injEq, beq_iff_eq] at h1
    omega
   have hs1 := s1 hlt
   refine next (cs := []) hle hG' hlt ?_
   rw [add_den (d2 hle) d10 (by omega), s2, h0]; rfl
 · refine ⟨trivial, fun ρ' hle hc T hTT hG' => ?_⟩
   obtain rfl : tB = T := Option.some.inj hTT
   simp only [CRel_cons, CRel_nil, and_true] at hc
   have hlt : i < R2.Ws.length := by simpa using (ltn hle hc.2.2.1).symm
   have h0 : R2.el (R2.Ws.getD i (.slice none 0 0)) = 0 := by
    have h1 := hc.1
    rw [cmpD (d4 hle) (litD 0)] at h1
    simp only [intCmp, Option.some.injEq, beq_iff_eq] at h1
    omega
   have hs1 := s1 hlt
   refine next (cs := []) hle hG' hlt ?_
   rw [add_den (d2 hle) d10 (by omega), s2, h0]; rfl
 · refine ⟨trivial, fun ρ' hle hc T hTT hG' => ?_⟩
   obtain rfl : tB = T := Option.some.inj hTT
   simp only [CRel_cons, CRel_nil, and_true] at hc
   have hlt : i < R2.Ws.length := by simpa using (ltn hle hc.2.2.1).symm
   have hs1 := s1 hlt
   refine next (cs := []) hle hG' hlt ?_
   rw [add_den (d2 hle) (add_den d10 (d4 hle) (by omega)) (by omega), s2]
   exact congrArg (fun n : Nat => some (n : Int)) (by omega)
 all_goals
  refine ⟨trivial, fun ρ' hle hc T hTT hG' => ?_⟩
  have hTT : (⟨[(0, .bool (.var 5))], 1, [], 1, [], 0⟩ : Tpl) = T := Option.some.inj hTT
  subst hTT
  simp only [CRel_cons, CRel_nil, and_true] at hc
  have hge : ¬ i < R2.Ws.length := by simpa using (ltn hle hc.2.1).symm
  have hi2 : i = R2.Ws.length := by omega
  have h2 := hc.1
  rw [cmpD (d2 hle) (litD 2000)] at h2
  refine ⟨keep_app2 (GG_keep R1 R2 X Y) rfl hG', CRel_nil.2 trivial, fun x w' r => ?_⟩
  obtain ⟨y, hy, he⟩ := r.t 0 (.bool (.var 5)) rfl
  obtain rfl : x = y := Option.some.inj he
  refine ⟨?_, Framed.of r.h⟩
  rw [<- Option.some.inj hy]
  subst hi2
  simp only [intCmp, Option.some.injEq, decide_eq_true_eq, decide_eq_false_iff_not] at h2
  unfold tot
  first
   | (rw [decide_eq_true (by omega)]; rfl)
   | (rw [decide_eq_false (by omega)]; rfl)
end Gr
end Go.Proofs.Ytighjgmgpphohaa
end
section
namespace Go.Proofs.Ytighjgmgpphohaa
open Go.Vm Go.Vm.Le Go.Vm.Mb
namespace Rf
open Ar (iV uV pT pT_den okR)
open Gr (add_den getD0)
variable {w : World}
def RU (w : World) : Value -> World -> Prop := fun x w' => (∃ z, x = .int .i64 z) /\ Framed w w'
theorem spU_ok {w : World} : CallOk Try.prog ⟨w, noO, GRb⟩ spU := spLH_ok (fun p hp => by cases hp) (hkU_ok fun _ _ _ _ _ h => h)
theorem end_U {ρ : Env} {x : Value} {w' : World} {G : GP} (r : SRel ⟨w, noO, G⟩ ρ ((⟨[(0, iV 230)], 1, [], 20, [], 0⟩ : Tpl).st []) ⟨#[x], []⟩ w') : RU w x w' := by
 obtain ⟨y, hy, he⟩ := r.t 0 (iV 230) rfl
 obtain rfl : x = y := Option.some.inj he
 exact ⟨⟨ρ.I 230, (Option.some.inj hy).symm⟩, Framed.of r.h⟩
theorem loop_U (X : Int) (hX : (decL X).tail.length <= 1000000000) : ∀ ρ, (ρ.I 219 = X /\ ∃ i : Nat, i <= (decL X).tail.length /\ ρ.I 220 = (i : Int)) -> ∀ todo a w', todo = .inLoop ub :: uk ∨ todo = .code (.loop ub) :: uk -> SRel ⟨w, noO, GRb⟩ ρ (tU.st todo) a w' -> Goes Try.prog 59 (RU w) todo a w' := by
 refine loop_goesO (β := ⟨w, noO, GRb⟩) noCount noExt spU_ok follows run_ul (fun ρ => ρ.I 219 = X /\ ∃ i : Nat, i <= (decL X).tail.length /\ ρ.I 220 = (i : Int)) (fun ρ => (decL X).tail.length - (ρ.I 220).toNat) (fun ρ hJ hcs hG ih s hs => ?_)
 obtain ⟨j1, i, hi, j2⟩ := hJ
 simp only [sums_ul, List.mem_cons, List.not_mem_nil, or_false] at hs
 rcases hs with rfl | rfl
 · refine ⟨trivial, fun ρ' hle hc T hT hG' => ?_⟩
   obtain rfl : tU = T := Option.some.inj hT
   simp only [CRel_cons, CRel_nil, and_true] at hc
   have d0 : (IT.var 220).den ρ' = some (i : Int) := by show some _ = _; rw [hle.i, j2]
   have dn : (nbT (.var 219)).den ρ' = some (((decL X).tail.length : Nat) : Int) := by
    rw [nbT, fnD (x := X) (by show some _ = _; rw [hle.i, j1]) (litD 0), hG'.1]; rfl
   have h1 := hc.2.1
   rw [show (IT.fn 93 (.var 219) (.lit 0)) = nbT (.var 219) from rfl, cmpD d0 dn] at h1
   simp only [intCmp, Option.some.injEq, decide_eq_true_eq] at h1
   have e1 : (IT.bin .add .i64 (.var 220) (.lit 1)).den ρ' = some ((i + 1 : Nat) : Int) := add_den d0 (y := 1) rfl (by omega)
   refine ⟨hG', ?_, fun a w' r => ih _ ?_ ⟨by show ρ'.I 219 = _; rw [hle.i, j1], i + 1, by omega, getD0 e1⟩ _ a w' (.inl rfl) r⟩
   · simp only [tU, csU, CRel_cons, CRel_nil, and_true]
     exact geqT (x := ((i + 1 : Nat) : Int)) (congrArg some (getD0 e1)) (litD 0) (by omega)
   · show (decL X).tail.length - (((IT.bin .add .i64 (.var 220) (.lit 1)).den ρ').getD 0).toNat < _
     rw [getD0 e1, j2]; omega
 · refine ⟨trivial, fun ρ' hle hc T hT hG' => ?_⟩
   have hT : (⟨[(0, iV 230)], 1, [], 20, [], 0⟩ : Tpl) = T := Option.some.inj hT
   subst hT
   exact ⟨hG', CRel_nil.2 trivial, fun x w' r => end_U r⟩
theorem used_big {ps : Rb} {cap b : Nat} {F : Nat -> Prop} (h : RefIn ps cap w b F) (hn : ps.length <= 1000000000) (g : Nat -> Int) : Calls Try.prog 59 #[.agg (refVals g (.slice (some ⟨b, 0, none⟩) ps.length cap)).toArray] w (fun e w' => ∃ x, e = .returned x /\ RU w x w') := by
 have hh := start_U h g
 have hX : (decL (encL (((cap : Nat) : Int) :: ps.map (·.1)))).tail.length = ps.length := by rw [decL_encL]; simp
 have hL : Lb.den (envU g (encL (((cap : Nat) : Int) :: ps.map (·.1))) b) = some (.slice (some ⟨b, 0, none⟩) ps.length cap) := by
  refine den_slice_of rfl rfl ?_ ?_
  · rw [nbT, fnD (x := encL (((cap : Nat) : Int) :: ps.map (·.1))) rfl (litD 0)]
    show some (fNb _ 0) = _
    rw [fNb, hX]
  · rw [capT, unD (x := encL (((cap : Nat) : Int) :: ps.map (·.1))) rfl (litD 0)]
    show some ((decL _).getD ((0 : Int).toNat) 0) = _
    rw [decL_encL]; rfl
 have hx : AVal.denL (envU g (encL (((cap : Nat) : Int) :: ps.map (·.1))) b) [.agg (refV Lb)] = some [.agg (refVals g (.slice (some ⟨b, 0, none⟩) ps.length cap)).toArray] := by
  simp only [AVal.denL, refV_den hL]
  rw [refVals_congr (g' := g) fun i hi => ?_]
  show (if 200 + i = 219 then _ else if 200 + i = 220 then _ else g (200 + i - 200)) = _
  rw [if_neg (by omega), if_neg (by omega), Nat.add_sub_cancel_left]
 refine calls_sumsO (β := ⟨w, noO, GRb⟩) noCount noExt spU_ok follows Try.func59 rfl run_ue hx hh (CRel_nil.2 trivial) (fun s hs => ?_)
 simp only [sums_ue, List.mem_cons, List.not_mem_nil, or_false] at hs
 subst hs
 refine ⟨trivial, fun ρ' hle hc' T hT hG' => ?_⟩
 obtain rfl : tU = T := Option.some.inj hT
 refine ⟨hG', ?_, fun a w' r => loop_U _ (by rw [hX]; exact hn) _ ⟨?_, 0, Nat.zero_le _, rfl⟩ _ a w' (.inr rfl) r⟩
 · simp only [tU, csU, CRel_cons, CRel_nil, and_true]
   exact geqT (x := 0) rfl (litD 0) (by omega)
 · show ρ'.I 219 = _
   rw [hle.i]; rfl
theorem used_nil (g : Nat -> Int) (w : World) : Calls Try.prog 59 #[.agg (refVals g (.slice none 0 0)).toArray] w (fun e w' => ∃ x, e = .returned x /\ RU w x w') := by
 let ρ : Env := ⟨fun i => g (i - 200), fun _ => false, fun _ => default, fun _ => undef, fun _ => none, FR⟩
 have hh : HRel ⟨w, noO, GRb⟩ ρ .leaf 0 w := HRel.startG w ρ (fun _ => rfl) FR_ok
 have hx : AVal.denL ρ [.agg (refV .sliceNil)] = some [.agg (refVals g (.slice none 0 0)).toArray] := by
  simp only [AVal.denL, refV_den (L := .sliceNil) (v := .slice none 0 0) (ρ := ρ) rfl]
  rw [refVals_congr (g' := g) fun i _ => ?_]
  show g (200 + i - 200) = _
  rw [Nat.add_sub_cancel_left]
 refine calls_sumsO (β := ⟨w, noO, GRb⟩) noCount noExt spU_ok follows Try.func59 rfl run_un hx hh (CRel_nil.2 trivial) (fun s hs => ?_)
 simp only [sums_un, List.mem_cons, List.not_mem_nil, or_false] at hs
 subst hs
 refine ⟨trivial, fun ρ' hle hc' T hT hG' => ?_⟩
 have hT : (⟨[(0, iV 230)], 1, [], 20, [], 0⟩ : Tpl) = T := Option.some.inj hT
 subst hT
 exact ⟨hG', CRel_nil.2 trivial, fun x w' r => end_U r⟩
theorem hnd60 (x y : Int) (w : World) : Calls Try.prog 60 #[.int .u64 x, .int .u64 y] w (fun e w' => ∃ z, e = .returned (.int .u64 z) /\ Framed w w') := by
 let ρ : Env := ⟨fun i => if i = 200 then x else y, fun _ => false, fun _ => default, fun _ => undef, fun _ => none, FR⟩
 have hh : HRel ⟨w, noO, GRb⟩ ρ .leaf 0 w := HRel.startG w ρ (fun _ => rfl) FR_ok
 obtain ⟨ls, hls, hall⟩ := Option.map_eq_some_iff.1 run60
 refine (calls_sumsE (β := ⟨w, noO, GRb⟩) (R := fun v w' => ∃ z, v = .int .u64 z /\ Framed w w') (g := gU) (L := []) (Rs := eH) (Ts := []) (pl := true) (n := 4000) (c := Try.f60.body.getD .ret) (cs := []) noCount noExt spU_ok follows Try.func60 rfl (by rw [hls]; rfl) (xs := [.int .u64 x, .int .u64 y]) rfl hh (CRel_nil.2 trivial) fun s hs => ?_).mono fun e w' ⟨v, he, z, hv, hf⟩ => ⟨z, by rw [he, hv], hf⟩
 have hk := List.all_eq_true.1 hall s hs
 unfold okR at hk
 split at hk
 · rename_i q σ
   match q with
   | 0 =>
    refine doneR (T := ⟨[(0, uV 230)], 1, [], 20, [], 0⟩) rfl fun ρ' hle hG => ⟨hG, CRel_nil.2 trivial, fun x w' r => ?_⟩
    obtain ⟨y, hy, he⟩ := r.t 0 (uV 230) rfl
    obtain rfl : x = y := Option.some.inj he
    exact ⟨_, (Option.some.inj hy).symm, Framed.of r.h⟩
   | q + 1 => exact ⟨trivial, fun ρ' hle hc T hT hG' => by cases hT⟩
 · cases hk
section
variable {β : Base}
theorem spHndR_ok : SpGOk Try.prog β 60 spHndR := by
 intro args H nl cs ls ρ w xs hr hx hh hc
 unfold spHndR at hr
 split at hr
 rotate_left
 · cases hr
 rename_i a b
 cases hr
 obtain ⟨x1, r1, e1, h1, rfl⟩ := denL_cons hx
 obtain ⟨x2, r2, e2, h2, rfl⟩ := denL_cons h1
 cases h2
 obtain ⟨z1, rfl, _⟩ := den_int e1
 obtain ⟨z2, rfl, _⟩ := den_int e2
 refine (hnd60 z1 z2 w).mono fun e w' ⟨z, he, hf⟩ => ?_
 obtain ⟨n, hn⟩ : ∃ n, n = encN [z] := ⟨_, rfl⟩
 have hle : ρ.Le (ρ.put nl n) := Env.le_put (hh.fresh nl (Nat.le_refl _))
 have hd : (pT 0 nl).den (ρ.put nl n) = some z := pT_den (l := [z]) (by rw [hn]; exact Env.put_same ..) 0
 exact ⟨_, he, _, _, _, _, _, List.mem_cons_self, hle, by simp only [AVal.den, hd, Option.map_some], (hh.num n).framed hf, hc.mono hle⟩
theorem spUsedR_ok (hG : ∀ I B S V F, β.G I B S V F -> GRb I B S V F) : SpGOk Try.prog β 59 spUsedR := by
 intro args H nl cs ls ρ w xs hr hx hh hc
 unfold spUsedR at hr
 split at hr
 rotate_left
 · cases hr
 rename_i vs
 obtain ⟨x1, r1, e1, h1, rfl⟩ := denL_cons hx
 cases h1
 simp only [AVal.den] at e1
 obtain ⟨ys, hys, rfl⟩ := Option.map_eq_some_iff.1 e1
 have fin : ∀ {u : Value} {g : Nat -> Int}, (Calls Try.prog 59 #[.agg (refVals g u).toArray] w (fun e w' => ∃ x, e = .returned x /\ RU w x w')) -> Calls Try.prog 59 [Value.agg (refVals g u).toArray].toArray w (fun e w' => ∃ x, e = .returned x /\ ∃ u' H' nl' cs' ρ', Leaf.ret u' H' nl' cs' ∈ [Leaf.ret (.int .i64 (pT 0 nl)) H (nl + 1) cs] /\ ρ.Le ρ' /\ u'.den ρ' = some x /\ HRel β ρ' H' nl' w' /\ CRel ρ' cs') := fun hcall =>
  hcall.mono fun e w' ⟨x, he, ⟨z, hz⟩, hf⟩ => by
   obtain ⟨n, hn⟩ : ∃ n, n = encN [z] := ⟨_, rfl⟩
   have hle : ρ.Le (ρ.put nl n) := Env.le_put (hh.fresh nl (Nat.le_refl _))
   have hd : (pT 0 nl).den (ρ.put nl n) = some z := pT_den (l := [z]) (by rw [hn]; exact Env.put_same ..) 0
   exact ⟨x, he, _, _, _, _, _, List.mem_cons_self, hle, by rw [hz]; simp only [AVal.den, hd, Option.map_some], (hh.num n).framed hf, hc.mono hle⟩
 split at hr
 · rename_i hro
   cases hr
   obtain ⟨g, v, hL, rfl⟩ := refOf_den hro hys
   obtain rfl := den_sliceNil hL
   exact fin (used_nil g w)
 · rename_i l n cp hro
   split at hr
   rotate_left
   · cases hr
   rename_i c rw0 hl
   cases hb : (IT.beq n (nbT c) && (IT.beq cp (capT c) && ubLe cs n 1000000000)) with
   | false => rw [hb] at hr; cases hr
   | true =>
    rw [hb] at hr; cases hr
    simp only [Bool.and_eq_true] at hb
    obtain ⟨hb1, hb2, hb3⟩ := hb
    obtain rfl := IT.beq_eq hb1
    obtain rfl := IT.beq_eq hb2
    obtain ⟨g, v, hL, rfl⟩ := refOf_den hro hys
    obtain ⟨b, x, F, hN, hcx, hfam, _⟩ := hh.bigAt hl
    obtain ⟨ps, cap, rfl, hR⟩ := fam4_inv hfam
    obtain ⟨b', o, n', cp', rfl, hN', ho, hn', hcp'⟩ := den_slice hL
    rw [hN] at hN'; cases hN'
    obtain rfl : o = 0 := (Int.ofNat.inj (Option.some.inj ho)).symm
    obtain ⟨g93, _⟩ := hG _ _ _ _ _ hh.g
    have hX : (decL (encL (((cap : Nat) : Int) :: ps.map (·.1)))).tail.length = ps.length := by rw [decL_encL]; simp
    have f1 : (nbT c).den ρ = some ((ps.length : Nat) : Int) := by
     rw [nbT, fnD hcx (litD 0), g93]
     show some (fNb _ 0) = _
     rw [fNb, hX]
    have e2 : (capT c).den ρ = some (cap : Int) := by
     rw [capT, unD hcx (litD 0)]
     show some ((decL _).getD ((0 : Int).toNat) 0) = _
     rw [decL_encL]; rfl
    obtain rfl : n' = ps.length := Int.ofNat.inj (Option.some.inj (hn'.symm.trans f1))
    obtain rfl : cp' = cap := Int.ofNat.inj (Option.some.inj (hcp'.symm.trans e2))
    have h1 := ubLe_ok hb3 hc f1
    exact fin (used_big hR (by omega) g)
 · cases hr
end
end Rf
end Go.Proofs.Ytighjgmgpphohaa
end
section
namespace Go.Proofs.Ytighjgmgpphohaa
open Go.Vm Go.Vm.Le Go.Vm.Mb
namespace Rf
open Ar (iV uV pT pT_den okR Words)
open Gr (add_den getD0)
def LSt (w : World) (L : Value) (F : Nat -> Prop) (n : Nat) : Prop := (L = .slice none 0 0 /\ n = 0 /\ ∀ y, ¬ F y) ∨ ∃ b cap ps, L = .slice (some ⟨b, 0, none⟩) n cap /\ n = ps.length /\ RefIn ps cap w b F
def RL (w : World) (F : Nat -> Prop) (n : Nat) : Value -> World -> Prop := fun x w' => ∃ g' L' z0 z1 F' n', x = .tuple #[.agg (refVals g' L').toArray, .int .u64 z0, .int .i64 z1] /\ LSt w' L' F' n' /\ n' <= n + 1 /\ BigStep w w' F F'
def tB : Tpl := ⟨[(0, .tuple [.agg (refW Lw), uV 250, iV 251])], 1, [(4, ⟨.big 4 (.var 249), true⟩)], 5, [], 0⟩
def tN : Tpl := ⟨[(0, .tuple [.agg (refW .sliceNil), uV 250, iV 251])], 1, [], 5, [], 0⟩
variable {w : World}
theorem refW_den {ρ : Env} {L : AVal} {v : Value} (h : L.den ρ = some v) : (AVal.tuple [.agg (refW L), uV 250, iV 251]).den ρ = some (.tuple #[.agg (refVals (fun i => ρ.I (230 + i)) v).toArray, .int .u64 (ρ.I 250), .int .i64 (ρ.I 251)]) := by
 simp only [refW, refVals, iV, uV, AVal.den, AVal.denL, IT.den, h, Option.map_some]
theorem step_of {F : Nat -> Prop} {G : GP} {ρ : Env} {H : Heap} {nl : Nat} {w' : World} (hr : HRel ⟨w, F, G⟩ ρ H nl w') {F' : Nat -> Prop} (h : ∀ y, F' y -> Base.dom ⟨w, F, G⟩ y) : BigStep w w' F F' := ⟨hr.size, hr.frame, hr.tape, hr.os, hr.out, fun y hy => (h y hy).symm⟩
theorem end_B {F : Nat -> Prop} {ρ : Env} {n : Nat} {x : Value} {w' : World} (r : SRel ⟨w, F, GRb⟩ ρ (tB.st []) ⟨#[x], []⟩ w') (hn : (decL (ρ.I 249)).tail.length <= n + 1) : RL w F n x w' := by
 obtain ⟨y, hy, he⟩ := r.t 0 (.tuple [.agg (refW Lw), uV 250, iV 251]) rfl
 obtain rfl : x = y := Option.some.inj he
 have hh : HRel ⟨w, F, GRb⟩ ρ (ofP [(4, ⟨.big 4 (.var 249), true⟩)]) 5 w' := r.h
 obtain ⟨Fp, hB⟩ := hh.big
 obtain ⟨b, X, N1, d1, f1, o1⟩ := hB.ok 4 4 (.var 249) true rfl
 obtain ⟨ps, cap, rfl, hR⟩ := fam4_inv f1
 have d1 : ρ.I 249 = encL (((cap : Nat) : Int) :: ps.map (·.1)) := Option.some.inj d1
 have hX : (decL (ρ.I 249)).tail.length = ps.length := by rw [d1, decL_encL]; simp
 have g93 : ρ.F 93 = fNb := hh.g.1
 have hL : Lw.den ρ = some (.slice (some ⟨b, 0, none⟩) ps.length cap) := by
  refine den_slice_of N1 rfl ?_ ?_
  · rw [nbT, fnD (x := ρ.I 249) rfl (litD 0), g93, fNb, hX]
  · rw [capT, unD (x := ρ.I 249) rfl (litD 0), d1]
    show some ((decL _).getD ((0 : Int).toNat) 0) = _
    rw [decL_encL]; rfl
 rw [refW_den hL] at hy
 exact ⟨_, _, _, _, Fp 4, ps.length, (Option.some.inj hy).symm, .inr ⟨b, cap, ps, rfl, rfl, hR⟩, by omega, step_of hh fun y hy => o1 rfl y hy⟩
theorem end_N {F : Nat -> Prop} {ρ : Env} {n : Nat} {x : Value} {w' : World} (r : SRel ⟨w, F, GRb⟩ ρ (tN.st []) ⟨#[x], []⟩ w') : RL w F n x w' := by
 obtain ⟨y, hy, he⟩ := r.t 0 (.tuple [.agg (refW .sliceNil), uV 250, iV 251]) rfl
 obtain rfl : x = y := Option.some.inj he
 rw [refW_den (L := .sliceNil) (v := .slice none 0 0) rfl] at hy
 exact ⟨_, _, _, _, fun _ => False, 0, (Option.some.inj hy).symm, .inl ⟨rfl, rfl, fun _ => id⟩, Nat.zero_le _, step_of (F' := fun _ => False) r.h fun y hy => hy.elim⟩
theorem eq_inv {ρ : Env} {p q : IT} (h : (BT.cmp .eql p q).den ρ = some true) : ∃ z, p.den ρ = some z /\ q.den ρ = some z := by
 cases hp : p.den ρ with
 | none => simp only [BT.den, hp] at h; cases h
 | some z => cases hq : q.den ρ with
  | none => simp only [BT.den, hp, hq] at h; cases h
  | some z' =>
   rw [cmpD hp hq] at h
   simp only [intCmp, Option.some.injEq, beq_iff_eq] at h
   exact ⟨z, rfl, by rw [h]⟩
theorem nb_inv {ρ : Env} {a : Nat} {z : Int} (g93 : ρ.F 93 = fNb) (h : (nbT (.nv a)).den ρ = some z) : ∃ k : Nat, ρ.N a = some k /\ z = (((decL (k : Int)).tail.length : Nat) : Int) := by
 cases hp : ρ.N a with
 | none => simp only [nbT, IT.den, hp, Option.map_none] at h; cases h
 | some k =>
  refine ⟨k, rfl, ?_⟩
  rw [nbT, fnD (nvD hp) (litD 0), g93] at h
  exact (Option.some.inj h).symm
theorem bin_inv {ρ : Env} {p q : IT} {z : Int} (h : (IT.bin .add .i64 p q).den ρ = some z) : ∃ x y, p.den ρ = some x /\ q.den ρ = some y /\ z = IntKind.i64.wrap (x + y) := by
 cases hp : p.den ρ with
 | none => simp only [IT.den, hp] at h; cases h
 | some x => cases hq : q.den ρ with
  | none => simp only [IT.den, hp, hq] at h; cases h
  | some y =>
   rw [binD hp hq] at h
   exact ⟨x, y, rfl, rfl, (Option.some.inj h).symm⟩
theorem grown {ρ : Env} {a b c : Nat} (g93 : ρ.F 93 = fNb) {n i : Nat} (hi : i <= n) (hn : n <= 1000000) {k t : IT} (hk : k.den ρ = some (i : Int)) (ht : t.den ρ = some ((n - i : Nat) : Int))
 (h1 : (BT.cmp .eql (nbT (.nv a)) (.bin .add .i64 (nbT (.nv b)) t)).den ρ = some true) (h2 : (BT.cmp .eql (nbT (.nv b)) (.bin .add .i64 (nbT (.nv c)) (.lit 1))).den ρ = some true) (h3 : (BT.cmp .eql (nbT (.nv c)) (.bin .add .i64 (.lit 0) k)).den ρ = some true) :
 ∃ q : Nat, ρ.N a = some q /\ (decL (q : Int)).tail.length = n + 1 := by
 obtain ⟨z1, e1, f1⟩ := eq_inv h1
 obtain ⟨z2, e2, f2⟩ := eq_inv h2
 obtain ⟨z3, e3, f3⟩ := eq_inv h3
 obtain ⟨x1, y1, p1, q1, r1⟩ := bin_inv f1
 obtain ⟨x2, y2, p2, q2, r2⟩ := bin_inv f2
 obtain ⟨x3, y3, p3, q3, r3⟩ := bin_inv f3
 rw [ht] at q1; cases q1
 cases q2
 rw [hk] at q3; cases q3
 cases p3
 rw [e2] at p1; cases p1
 rw [e3] at p2; cases p2
 rw [wrapI (by omega) (by omega)] at r3
 subst r3
 rw [wrapI (by omega) (by omega)] at r2
 subst r2
 rw [wrapI (by omega) (by omega)] at r1
 subst r1
 obtain ⟨q, hq, hz⟩ := nb_inv g93 e1
 exact ⟨q, hq, by omega⟩
end Rf
end Go.Proofs.Ytighjgmgpphohaa
end
section
namespace Go.Proofs.Ytighjgmgpphohaa
open Go.Vm Go.Vm.Le Go.Vm.Mb
namespace Rf
open Ar (iV uV pT pT_den okR Words)
open Gr (add_den getD0)
theorem und53 : Try.prog.underlying 53 = some (.slice 112) := by kernel_rfl
theorem zer112 : zeroA Try.prog 112 = some (.agg [.int .u64 (.lit 0), .sliceNil]) := by kernel_rfl
theorem spL_ok {w : World} {F : Nat -> Prop} : CallOk Try.prog ⟨w, F, GRb⟩ spL := by
 have h0 : ∀ I B S V F', (Base.mk w F GRb).G I B S V F' -> GRb I B S V F' := fun _ _ _ _ _ h => h
 refine spLH_ok (fun p hp => ?_) (orH_ok (hkU_ok h0) (orH_ok ?_ (hkXLen_ok Ar.und22')))
 · simp only [List.mem_cons, List.not_mem_nil, or_false] at hp
   rcases hp with rfl | rfl
   · exact spUsedR_ok h0
   · exact spHndR_ok
 · obtain ⟨zv, hz1, hz2⟩ := zeroA_ok zer112
   have hzv : zv = .agg #[.int .u64 0, .slice none 0 0] := (Option.some.inj (hz2 (⟨fun _ => 0, fun _ => false, fun _ => default, fun _ => undef, fun _ => none, FR⟩ : Env))).symm
   obtain ⟨ei, hei, hsz⟩ := Option.map_eq_some_iff.1 inf112
   have hby : (Try.prog.info? 112).map (fun i => decide (i.bytes ≠ 0 /\ i.bytes <= 32)) = some true := by kernel_rfl
   rw [hei] at hby
   exact hkAp_ok und53 hei hsz (of_decide_eq_true (Option.some.inj hby)) hz1 (by rw [hzv]; rfl) h0
variable {w : World}
structure JL (X : Int) (n : Nat) (ρ : Env) : Prop where
 x : ρ.I 219 = X
 i : ∃ i : Nat, i <= n /\ ρ.I 220 = (i : Int)
 m : ∃ m : Nat, 1 <= m /\ m <= 2048 /\ ρ.I 223 = (m : Int)
section
variable {X : Int} {n cap : Nat} (hX : (decL X).tail.length = n) (hc : (decL X).getD 0 0 = (cap : Int)) (hn : n <= 1000000) (hcap : n <= cap)
include hX hc hn hcap
theorem csL_ok {ρ : Env} (g93 : ρ.F 93 = fNb) (j : JL X n ρ) : CRel ρ csL := by
 obtain ⟨jx, ⟨i, hi, ji⟩, m, hm1, hm2, jm⟩ := j
 have d0 : (IT.var 220).den ρ = some (i : Int) := by show some _ = _; rw [ji]
 have d1 : (IT.var 223).den ρ = some (m : Int) := by show some _ = _; rw [jm]
 have dn : (nbT (.var 219)).den ρ = some (n : Int) := by rw [nbT, fnD (x := X) (by show some _ = _; rw [jx]) (litD 0), g93, fNb, hX]
 have dc : (capT (.var 219)).den ρ = some (cap : Int) := by
  rw [capT, unD (x := X) (by show some _ = _; rw [jx]) (litD 0), <- hc]; rfl
 have d14 : (IT.un 14 (nbT (.var 219)) (.var 220)).den ρ = some ((n - i : Nat) : Int) := by
  rw [unD dn d0]
  show some (if ((i : Nat) : Int) <= ((n : Nat) : Int) then ((n : Nat) : Int) - ((i : Nat) : Int) else 0) = _
  rw [if_pos (by omega)]
  exact congrArg some (by omega)
 simp only [csL, csW, CRel_cons, CRel_nil, and_true]
 exact ⟨geqT d0 (litD 0) (by omega), leqT (litD 0) d0 (by omega), leqT d0 dn (by omega), leqT d0 dc (by omega), leqT dn (litD 1000000) (by omega), leqT d0 (litD 1000000) (by omega), leqT d14 (litD 1000000) (by omega), geqT (litD 0) (litD 0) (by omega), geqT d1 (litD 1) (by omega), leqT d1 (litD 2048) (by omega)⟩
theorem loop_L {F : Nat -> Prop} : ∀ ρ, JL X n ρ -> ∀ todo a w', todo = .inLoop lb :: lk0 ∨ todo = .code (.loop lb) :: lk0 -> SRel ⟨w, F, GRb⟩ ρ (tL.st todo) a w' -> Goes Try.prog 47 (RL w F n) todo a w' := by
 refine loop_goesO (β := ⟨w, F, GRb⟩) noCount noExt spL_ok follows run_ll (JL X n) (fun ρ => n - (ρ.I 220).toNat) (fun ρ hJ hcs hG ih s hs => ?_)
 obtain ⟨jx, ⟨i, hi, ji⟩, m, hm1, hm2, jm⟩ := hJ
 have d0 : ∀ {ρ'}, ρ.Le ρ' -> (IT.var 220).den ρ' = some (i : Int) := fun hle => by show some _ = _; rw [hle.i, ji]
 have dn : ∀ {ρ'}, ρ.Le ρ' -> GP.at GRb ρ' -> (nbT (.var 219)).den ρ' = some (n : Int) := fun hle hG' => by rw [nbT, fnD (x := X) (by show some _ = _; rw [hle.i, jx]) (litD 0), hG'.1, fNb, hX]
 have d14 : ∀ {ρ'}, ρ.Le ρ' -> GP.at GRb ρ' -> (IT.un 14 (nbT (.var 219)) (.var 220)).den ρ' = some ((n - i : Nat) : Int) := fun hle hG' => by
  rw [unD (dn hle hG') (d0 hle)]
  show some (if ((i : Nat) : Int) <= ((n : Nat) : Int) then ((n : Nat) : Int) - ((i : Nat) : Int) else 0) = _
  rw [if_pos (by omega)]
  exact congrArg some (by omega)
 simp only [sums_ll, List.mem_cons, List.not_mem_nil, or_false] at hs
 rcases hs with rfl | rfl | rfl | rfl | rfl
 · refine ⟨trivial, fun ρ' hle hc' T hT hG' => ?_⟩
   obtain rfl : tL = T := Option.some.inj hT
   simp only [CRel_cons, CRel_nil, and_true] at hc'
   have h1 := hc'.2.1
   rw [show (IT.fn 93 (.var 219) (.lit 0)) = nbT (.var 219) from rfl, cmpD (d0 hle) (dn hle hG')] at h1
   simp only [intCmp, Option.some.injEq, decide_eq_true_eq] at h1
   have e1 : (IT.bin .add .i64 (.var 220) (.lit 1)).den ρ' = some ((i + 1 : Nat) : Int) := add_den (d0 hle) (y := 1) rfl (by omega)
   have mk : ∀ ρ2 : Env, ρ2.I 219 = ρ'.I 219 -> ρ2.I 220 = ((i + 1 : Nat) : Int) -> ρ2.I 223 = ρ'.I 223 -> JL X n ρ2 := fun ρ2 h2 h3 h4 => ⟨by rw [h2, hle.i, jx], ⟨i + 1, by omega, h3⟩, m, hm1, hm2, by rw [h4, hle.i, jm]⟩
   refine ⟨hG', csL_ok hX hc hn hcap hG'.1 ?_, fun a w' r => ih _ ?_ ?_ _ a w' (.inl rfl) r⟩
   · exact mk _ rfl (getD0 e1) rfl
   rotate_left
   · exact mk _ rfl (getD0 e1) rfl
   show n - (((IT.bin .add .i64 (.var 220) (.lit 1)).den ρ').getD 0).toNat < _
   rw [getD0 e1, ji]; omega
 all_goals
  refine ⟨trivial, fun ρ' hle hc' T hT hG' => ?_⟩
  have hT : tB = T := Option.some.inj hT
  subst hT
  have h1 : (BT.cmp .eql (nbT (.nv 17)) (.bin .add .i64 (nbT (.nv 15)) (.un 14 (nbT (.var 219)) (.var 220)))).den ρ' = some true := hc' (_, true) (by repeat (first | exact List.mem_cons_self | apply List.mem_cons_of_mem))
  have h2 : (BT.cmp .eql (nbT (.nv 15)) (.bin .add .i64 (nbT (.nv 9)) (.lit 1))).den ρ' = some true := hc' (_, true) (by repeat (first | exact List.mem_cons_self | apply List.mem_cons_of_mem))
  have h3 : (BT.cmp .eql (nbT (.nv 9)) (.bin .add .i64 (.lit 0) (.var 220))).den ρ' = some true := hc' (_, true) (by repeat (first | exact List.mem_cons_self | apply List.mem_cons_of_mem))
  obtain ⟨q, hq1, hq2⟩ := grown hG'.1 hi hn (d0 hle) (d14 hle hG') h1 h2 h3
  refine ⟨hG', CRel_nil.2 trivial, fun x w' r => end_B r ?_⟩
  show (decL (((ρ'.N 17).map fun k => ((k : Nat) : Int)).getD 0)).tail.length <= _
  rw [hq1]
  exact Nat.le_of_eq hq2
end
end Rf
end Go.Proofs.Ytighjgmgpphohaa
end
section
namespace Go.Proofs.Ytighjgmgpphohaa
open Go.Vm Go.Vm.Le Go.Vm.Mb
namespace Rf
open Ar (iV uV pT pT_den okR Words)
open Gr (add_den getD0)
inductive Kw | nil | zero | great | ok
def wK : Kw -> AVal
 | .nil => .sliceNil
 | .zero => .slx 1 (.var 224) (.lit 0) (.nv 2)
 | _ => wW
def hK (rw : Bool) : Kw -> List (Nat × HB)
 | .nil | .zero => cond rw [(4, rwB true)] []
 | _ => cond rw [(1, rowW), (4, rwB true)] [(1, rowW)]
def cK : Kw -> Cs
 | .nil | .zero => []
 | .great => [(.cmp .eql (.var 223) (.lit 0), false), (.cmp .gtr (.var 223) (.lit 2048), true)]
 | .ok => csF
def okB : LM -> Bool
 | .done 0 _ σ => match lk σ.I 249 with
  | some t => IT.beq t (.var 219)
  | none => false
 | _ => false
def okN : LM -> Bool
 | .done 1 _ _ => true
 | _ => false
noncomputable def RunB (k : Kw) : Prop := ((run Try.prog [] spL 4000 true 47 (entry Try.f47 (Try.f47.body.getD .ret) [.agg (refV Lb), wK k] (ofP (hK true k)) 5 (cK k))).map fun ls => (ls.filterMap (sumMD gL [] eL [tL])).all okB) = some true
noncomputable def RunN (k : Kw) : Prop := ((run Try.prog [] spL 4000 true 47 (entry Try.f47 (Try.f47.body.getD .ret) [.agg (refV .sliceNil), wK k] (ofP (hK false k)) 5 (cK k))).map fun ls => (ls.filterMap (sumMD gL [] eL [tL])).all okN) = some true
theorem rb_nil : RunB .nil := by unfold RunB; kernel_rfl
theorem rb_zero : RunB .zero := by unfold RunB; kernel_rfl
theorem rb_great : RunB .great := by unfold RunB; kernel_rfl
theorem rn_nil : RunN .nil := by unfold RunN; kernel_rfl
theorem rn_zero : RunN .zero := by unfold RunN; kernel_rfl
theorem rn_great : RunN .great := by unfold RunN; kernel_rfl
end Rf
end Go.Proofs.Ytighjgmgpphohaa
end
