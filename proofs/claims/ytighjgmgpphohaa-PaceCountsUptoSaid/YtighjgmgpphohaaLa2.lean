/- The law (5): great's contract. -/
import Derived.Test.YtighjgmgpphohaaRf7
import Derived.Test.YtighjgmgpphohaaRf9
section
namespace Go.Proofs.Ytighjgmgpphohaa
open Go.Vm Go.Vm.Le Go.Vm.Mb
namespace Gr
variable {w : World}
theorem sum_ge (R : RowsW false w) : ∀ k, k <= R.sum k := fun k => by
 induction k with
 | zero => exact Nat.le_refl _
 | succ k ih => simp only [RowsW.sum]; omega
theorem loop_A (R1 R2 : RowsW false w) (X Y : LenV) (hT : tot R1 R2 X Y < 4611686018427387904) :
 ∀ ρ, (∃ i : Nat, i <= R1.Ws.length /\ ρ.I 201 = (i : Int) /\ ρ.I 200 = ((R1.sum i : Nat) : Int)) -> ∀ todo a w', todo = .inLoop gb0 :: gk0 ∨ todo = .code (.loop gb0) :: gk0 -> SRel ⟨w, noO, GG R1 R2 X Y⟩ ρ (tA.st todo) a w' -> Goes Try.prog 21 (RGr w (decide (2000 < tot R1 R2 X Y))) todo a w' := by
 refine loop_goesO (β := ⟨w, noO, GG R1 R2 X Y⟩) noCount noExt (spG_ok R1 R2 X Y) follows run_a (fun ρ => ∃ i : Nat, i <= R1.Ws.length /\ ρ.I 201 = (i : Int) /\ ρ.I 200 = ((R1.sum i : Nat) : Int)) (fun ρ => R1.Ws.length - (ρ.I 201).toNat) (fun ρ hJ hcs hG ih s hs => ?_)
 obtain ⟨i, hi, j1, j2⟩ := hJ
 have hG0 : GG R1 R2 X Y ρ.I ρ.B ρ.S ρ.V ρ.F := hG
 have g79 := hG0.1.1.2.2.2.2.1
 have g63 := hG0.1.1.2.2.2.1
 have g76 := hG0.2.1.2
 have g78 := hG0.2.2.2
 have d1 : ∀ {ρ' : Env}, ρ.Le ρ' -> (IT.var 201).den ρ' = some (i : Int) := fun h => by show some _ = _; rw [h.i, j1]
 have d2 : ∀ {ρ' : Env}, ρ.Le ρ' -> (IT.var 200).den ρ' = some ((R1.sum i : Nat) : Int) := fun h => by show some _ = _; rw [h.i, j2]
 have d3 : ∀ {ρ' : Env}, ρ.Le ρ' -> (IT.var 63).den ρ' = some (R1.Ws.length : Int) := fun h => by show some _ = _; rw [h.i]; exact congrArg some g63
 have d5 : ∀ {ρ' : Env}, ρ.Le ρ' -> (IT.var 76).den ρ' = some (X.n : Int) := fun h => by show some _ = _; rw [h.i]; exact congrArg some g76
 have d6 : ∀ {ρ' : Env}, ρ.Le ρ' -> (IT.var 78).den ρ' = some (Y.n : Int) := fun h => by show some _ = _; rw [h.i]; exact congrArg some g78
 have d4 : ∀ {ρ' : Env}, ρ.Le ρ' -> (IT.fn 79 (.var 201) (.lit 0)).den ρ' = some ((R1.el (R1.Ws.getD i (.slice none 0 0)) : Nat) : Int) := fun h => by
  rw [fnD (d1 h) (litD 0), h.f, g79]
  simp only [RowsW.f, Int.toNat_natCast]
 have d10 : ∀ {ρ' : Env}, (IT.lit 10).den ρ' = some ((10 : Nat) : Int) := fun {_} => rfl
 have d01 : ∀ {ρ' : Env}, (IT.lit 1).den ρ' = some ((1 : Nat) : Int) := fun {_} => rfl
 have hle1 : R1.sum i <= R1.sum R1.Ws.length := R1.sum_le hi
 have hT0 := hT
 unfold tot at hT
 have next : ∀ {t : IT} {ρ' : Env}, ρ.Le ρ' -> GP.at (GG R1 R2 X Y) ρ' -> i < R1.Ws.length -> t.den ρ' = some ((R1.sum (i + 1) : Nat) : Int) ->
  GP.at (GG R1 R2 X Y) (Go.Vm.Sub.app ⟨[(200, t), (63, (.var 63)), (201, (.bin .add .i64 (.var 201) (.lit 1))), (67, (.var 67))], [], [], [], [(0, 0)]⟩ ρ') /\ CRel (Go.Vm.Sub.app ⟨[(200, t), (63, (.var 63)), (201, (.bin .add .i64 (.var 201) (.lit 1))), (67, (.var 67))], [], [], [], [(0, 0)]⟩ ρ') tA.cs ∧
  ∀ a w', SRel ⟨w, noO, GG R1 R2 X Y⟩ (Go.Vm.Sub.app ⟨[(200, t), (63, (.var 63)), (201, (.bin .add .i64 (.var 201) (.lit 1))), (67, (.var 67))], [], [], [], [(0, 0)]⟩ ρ') (tA.st (.inLoop gb0 :: gk0)) a w' -> Goes Try.prog 21 (RGr w (decide (2000 < tot R1 R2 X Y))) (.inLoop gb0 :: gk0) a w' := fun {t ρ'} hle hG' hlt ht => by
  have hL := sum_ge R1 R1.Ws.length
  have e1 : (IT.bin .add .i64 (.var 201) (.lit 1)).den ρ' = some ((i + 1 : Nat) : Int) := add_den (d1 hle) d01 (by omega)
  refine ⟨keep_app2 (GG_keep R1 R2 X Y) rfl hG', ?_, fun a w' r => ih _ ?_ ⟨i + 1, by omega, getD0 e1, getD0 ht⟩ _ a w' (.inl rfl) r⟩
  · simp only [tA, csA, CRel_cons, CRel_nil, and_true]
    exact geqT (x := ((i + 1 : Nat) : Int)) (congrArg some (getD0 e1)) (litD 0) (by omega)
  · show R1.Ws.length - (((IT.bin .add .i64 (.var 201) (.lit 1)).den ρ').getD 0).toNat < _
    rw [getD0 e1, j1]; omega
 have ltn : ∀ {ρ' : Env} {b : Bool}, ρ.Le ρ' -> (BT.cmp .lss (.var 201) (.var 63)).den ρ' = some b -> b = decide (i < R1.Ws.length) := fun {ρ' b} hle h => by
  rw [cmpD (d1 hle) (d3 hle)] at h
  simp only [intCmp, Option.some.injEq] at h
  rw [<- h]
  by_cases hq : i < R1.Ws.length
  · simp [hq]
  · simp [hq]
 have s1 : i < R1.Ws.length -> R1.sum (i + 1) <= R1.sum R1.Ws.length := fun h => R1.sum_le h
 have s2 : R1.sum (i + 1) = R1.sum i + (10 + R1.el (R1.Ws.getD i (.slice none 0 0))) := rfl
 simp only [sums_a, List.mem_cons, List.not_mem_nil, or_false] at hs
 have zero : ∀ {ρ' : Env}, ρ.Le ρ' -> (BT.cmp .eql (.fn 79 (.var 201) (.lit 0)) (.lit 0)).den ρ' = some true -> R1.el (R1.Ws.getD i (.slice none 0 0)) = 0 := fun {ρ'} hle h1 => by
  rw [cmpD (d4 hle) (litD 0)] at h1
  simp only [intCmp, Option.some.injEq, beq_iff_eq] at h1
  omega
 rcases hs with rfl | rfl | rfl | rfl
 · refine ⟨trivial, fun ρ' hle hc T hTT hG' => ?_⟩
   obtain rfl : tA = T := Option.some.inj hTT
   simp only [CRel_cons, CRel_nil, and_true] at hc
   have hlt : i < R1.Ws.length := by simpa using (ltn hle hc.2.2.1).symm
   have h0 := zero hle hc.1
   have hs1 := s1 hlt
   refine next hle hG' hlt ?_
   rw [add_den (d2 hle) d10 (by omega), s2, h0]
 · refine ⟨trivial, fun ρ' hle hc T hTT hG' => ?_⟩
   obtain rfl : tA = T := Option.some.inj hTT
   simp only [CRel_cons, CRel_nil, and_true] at hc
   have hlt : i < R1.Ws.length := by simpa using (ltn hle hc.2.2.1).symm
   have h0 := zero hle hc.1
   have hs1 := s1 hlt
   refine next hle hG' hlt ?_
   rw [add_den (d2 hle) d10 (by omega), s2, h0]
 · refine ⟨trivial, fun ρ' hle hc T hTT hG' => ?_⟩
   obtain rfl : tA = T := Option.some.inj hTT
   simp only [CRel_cons, CRel_nil, and_true] at hc
   have hlt : i < R1.Ws.length := by simpa using (ltn hle hc.2.2.1).symm
   have hs1 := s1 hlt
   refine next hle hG' hlt ?_
   rw [add_den (d2 hle) (add_den d10 (d4 hle) (by omega)) (by omega), s2]
 · refine ⟨trivial, fun ρ' hle hc T hTT hG' => ?_⟩
   obtain rfl : tB = T := Option.some.inj hTT
   simp only [CRel_cons, CRel_nil, and_true] at hc
   have hge : ¬ i < R1.Ws.length := by simpa using (ltn hle hc.1).symm
   have hi2 : i = R1.Ws.length := by omega
   subst hi2
   have e1 : (IT.bin .add .i64 (.var 200) (.bin .add .i64 (.bin .add .i64 (.lit 10) (.var 76)) (.var 78))).den ρ' = some ((R1.sum R1.Ws.length + (10 + X.n + Y.n) : Nat) : Int) :=
    add_den (d2 hle) (add_den (add_den d10 (d5 hle) (by omega)) (d6 hle) (by omega)) (by omega)
   refine ⟨keep_app2 (GG_keep R1 R2 X Y) rfl hG', ?_, fun a w' r => loop_B R1 R2 X Y hT0 _ ⟨0, Nat.zero_le _, rfl, ?_⟩ _ a w' (.inr rfl) r⟩
   · simp only [tB, csB, CRel_cons, CRel_nil, and_true]
     exact geqT (x := 0) rfl (litD 0) (by omega)
   · exact getD0 e1
def prV (k : Int) (X Y : LenV) (R : RowsW false w) : List Value := [.int .i64 k, X.v, Y.v, .slice R.ad R.Ws.length R.cap]
theorem great21 (R1 R2 : RowsW false w) (X Y : LenV) (hT : tot R1 R2 X Y < 4611686018427387904) {k : Int} {bp : Nat} {c : Array Value} {fr : Nat × Nat} (hb : w.heap[bp]? = some (.cells c 49 fr)) (hc : c.toList = prV k X Y R2) :
 Calls Try.prog 21 #[.slice R1.ad R1.Ws.length R1.cap, .slice (some ⟨bp, 0, none⟩) 1 1, .slice none 0 0] w (fun e w' => e = .returned (.bool (decide (2000 < tot R1 R2 X Y))) /\ Framed w w') := by
 let ρ : Env := ⟨fun i => if i = 61 then R1.bo else if i = 62 then R1.oo else if i = 63 then R1.Ws.length else if i = 71 then R2.bo else if i = 72 then R2.oo else if i = 73 then R2.Ws.length else if i = 76 then X.n else if i = 78 then Y.n else k, fun _ => false, fun _ => default,
  fun i => if i = 60 then .slice R1.ad R1.Ws.length R1.cap else if i = 70 then .slice R2.ad R2.Ws.length R2.cap else if i = 64 then X.v else Y.v, fun i => if i = 0 then some bp else none, fun i => if i = 79 then R1.f else if i = 80 then R1.g else if i = 81 then R2.f else R2.g⟩
 have hsize : c.size = 4 := by
  have := congrArg List.length hc
  simpa [prV] using this
 have hh : HRel ⟨w, noO, GG R1 R2 X Y⟩ ρ (ofP hG0) 1 w := by
  refine HRel.ro [(0, prB.k)] (fun p hp => ?_) (fun i hi => ?_) ⟨⟨⟨rfl, rfl, rfl, rfl, rfl, rfl⟩, rfl, rfl, rfl, rfl, rfl, rfl⟩, ⟨rfl, rfl⟩, rfl, rfl⟩
  · rw [List.mem_singleton.1 hp]
    exact ⟨bp, _, rfl, hb, _, c, fr, rfl, rfl, by rw [hc]; exact List.prefix_refl _, hsize, fun e => by cases e⟩
  · show (if i = 0 then some bp else none) = none
    rw [if_neg (by omega)]
 refine (calls_sumsO (β := ⟨w, noO, GG R1 R2 X Y⟩) (R := RGr w (decide (2000 < tot R1 R2 X Y))) noCount noExt (spG_ok R1 R2 X Y) follows Try.func21 rfl run_e (xs := [.slice R1.ad R1.Ws.length R1.cap, .slice (some ⟨bp, 0, none⟩) 1 1, .slice none 0 0]) rfl hh (CRel_nil.2 trivial) (fun s hs => ?_)).mono fun e w' ⟨v, he, hv, hf⟩ => ⟨by rw [he, hv], hf⟩
 simp only [sums_e, List.mem_cons, List.not_mem_nil, or_false] at hs
 subst hs
 refine ⟨trivial, fun ρ' hle hc' T hTT hG' => ?_⟩
 obtain rfl : tA = T := Option.some.inj hTT
 refine ⟨keep_app2 (GG_keep R1 R2 X Y) rfl hG', ?_, fun a w' r => loop_A R1 R2 X Y hT _ ⟨0, Nat.zero_le _, rfl, rfl⟩ _ a w' (.inr rfl) r⟩
 simp only [tA, csA, CRel_cons, CRel_nil, and_true]
 exact geqT (x := 0) rfl (litD 0) (by omega)
end Gr
end Go.Proofs.Ytighjgmgpphohaa
end
section
namespace Go.Proofs.Ytighjgmgpphohaa
open Go.Vm Go.Vm.Le Go.Vm.Mb
namespace La
open Ar (iV uV)
open Rf (refV rwB Lb bxU bxZ)
def hk22 : OpF := orH (hkInLen 47 60 61) (orH (hkInA 47 60 61) (hkInL false 22 61 79))
def sp22 : CallF := spLH [(7, Ar.spNewA), (46, Ar.spLayA), (47, Rf.spLayR)] hk22
def arA : HB := ⟨.big 2 (.var 221), true⟩
def tmA : List (Nat × AVal) := [(5, .ptr 2 (.lit 0)), (6, .ptr 3 (.lit 0)), (8, .ptr 5 (.lit 0)), (18, .var 60), (19, iV 63), (20, iV 220)]
def csN : Cs := [(.cmp .geq (.var 220) (.lit 0), true)]
def csB : Cs := (.cmp .leq (nbT (.var 219)) (.lit 1000000), true) :: csN
def tN : Tpl := ⟨tmA, 37, [(3, arA), (5, bxU .sliceNil), (2, bxZ)], 6, csN, 3⟩
def tB : Tpl := ⟨tmA, 37, [(3, arA), (5, bxU Lb), (4, rwB true), (2, bxZ)], 6, csB, 3⟩
def e22 : List Tpl := [⟨[(0, .tuple [.ptr 3 (.lit 0), .agg (refV .sliceNil)])], 1, [(3, arA)], 6, [], 0⟩, ⟨[(0, .tuple [.ptr 3 (.lit 0), .agg (refV Lb)])], 1, [(3, arA), (4, rwB true)], 6, [], 0⟩]
def g22 : Gen := ⟨222, 9, 0, 8⟩
end La
end Go.Proofs.Ytighjgmgpphohaa
end
section
namespace Go.Proofs.Ytighjgmgpphohaa
open Go.Vm Go.Vm.Le Go.Vm.Mb
namespace La
section
variable {P : Program} {β : Base} {f : FuncId} {R : Value -> World -> Prop}
theorem loop_goesH (hc : NoCount P) {E : Exts} (hE : ExtOk P E) {sp : CallF} (hsp : CallOk P β sp) (hm : P.follows .mixedOrders = true) {g : Gen} {L : List Nat} {b : Code} {k : List Item} {n : Nat} {ι : Type} (T : ι -> Tpl) (J : ι -> Env -> Prop) (μ : Env -> Nat)
 (hs : ∀ i ρ, J i ρ -> (∃ w, HRel β ρ (ofP (T i).H) (T i).nl w) -> CRel ρ (T i).cs -> GP.at β.G ρ -> (∀ i' ρ', μ ρ' < μ ρ -> J i' ρ' -> ∀ todo a w, todo = .inLoop b :: k ∨ todo = .code (.loop b) :: k -> SRel β ρ' ((T i').st todo) a w -> Goes P f R todo a w) ->
  ∃ pl Rs Ts cs' sums, CRel ρ cs' /\ (run P E sp n pl f ((⟨(T i).tm, (T i).nt, (T i).H, (T i).nl, cs', (T i).dep⟩ : Tpl).st (.code b :: .inLoop b :: k))).map (·.filterMap (sumMO g L Rs Ts)) = some sums /\ ∀ s ∈ sums, MGoodO P β f R Rs Ts ρ s) :
 ∀ i ρ, J i ρ -> ∀ todo a w, todo = .inLoop b :: k ∨ todo = .code (.loop b) :: k -> SRel β ρ ((T i).st todo) a w -> Goes P f R todo a w := by
 suffices H : ∀ N i ρ, μ ρ = N -> J i ρ -> ∀ todo a w, todo = .inLoop b :: k ∨ todo = .code (.loop b) :: k -> SRel β ρ ((T i).st todo) a w -> Goes P f R todo a w from fun i ρ => H _ i ρ rfl
 intro N
 induction N using Nat.strongRecOn with
 | _ N ih =>
  intro i ρ hN hJ todo a w htd r
  obtain ⟨pl, Rs, Ts, cs', sums, hcs', hrun, hss⟩ := hs i ρ hJ ⟨w, r.h⟩ r.c r.h.g fun i' ρ' hlt hJ' todo' a' w' ht' r' => ih (μ ρ') (by omega) i' ρ' rfl hJ' todo' a' w' ht' r'
  obtain ⟨ls, hls, hsum⟩ := Option.map_eq_some_iff.1 hrun
  have key : Goes P f R (.code b :: .inLoop b :: k) a w := run_sound hc hE hsp hm n pl f _ ls ρ a w _ hls ⟨r.d, r.n, r.t, r.h, hcs'⟩ (m_allO hsum hss)
  rcases htd with rfl | rfl
  · exact Goes.one (fun cs => step_inLoop) key
  · exact Goes.one (fun cs => step_loop) key
end
noncomputable def ab0 : Code := ((loopsOf (Try.f22.body.getD .ret) []).getD 0 (.ret, [])).1
noncomputable def ak0 : List Item := ((loopsOf (Try.f22.body.getD .ret) []).getD 0 (.ret, [])).2
noncomputable def sums_e : List LM := [.next 1 (.code (.loop ab0) :: ak0) [] ⟨[(63, (.var 63)), (220, (.lit 0)), (221, (.nv 2)), (200, (.lit 60000)), (201, (.lit 0)), (202, (.lit 0)), (203, (.lit 0)), (204, (.lit 0)), (205, (.lit 0)), (206, (.lit 0)), (207, (.lit 0)), (208, (.lit 0)), (209, (.lit 0)), (210, (.lit 0)), (211, (.lit 0)), (212, (.lit 0)), (213, (.lit 0)), (214, (.lit 0)), (215, (.lit 0)), (216, (.lit 0)), (217, (.lit 0)), (218, (.lit 0))], [], [], [], [(2, 1), (3, 3), (5, 4)]⟩]
abbrev qla2xx0 : BT × Bool := ((.cmp .geq (.var 220) (.lit 0)), true)
abbrev qla2xx1 : BT × Bool := ((.cmp .eql (.nv 6) (.var 61)), true)
abbrev qla2xx2 : BT × Bool := ((.cmp .lss (.var 220) (.var 63)), true)
abbrev qla2xx3 : BT × Bool := ((.cmp .eql (.fn 79 (.var 220) (.lit 0)) (.lit 0)), true)
abbrev qla2xx4 : BT × Bool := ((.cmp .leq (.fn 93 (.var 219) (.lit 0)) (.lit 1000000)), true)
abbrev qla2xx5 : BT × Bool := ((.cmp .geq (.fn 79 (.var 220) (.lit 0)) (.lit 1)), true)
abbrev qla2xx6 : BT × Bool := ((.cmp .leq (.fn 93 (.nv 12) (.lit 0)) (.bin .add .i64 (.lit 0) (.lit 1))), true)
abbrev qla2xx7 : BT × Bool := ((.cmp .leq (.fn 93 (.nv 12) (.lit 0)) (.bin .add .i64 (.fn 93 (.var 219) (.lit 0)) (.lit 1))), true)
noncomputable def sums_n : List LM := [.next 1 (.inLoop ab0 :: ak0) [qla2xx3, qla2xx1, qla2xx2, qla2xx0] ⟨[(63, (.var 63)), (220, (.bin .add .i64 (.var 220) (.lit 1))), (221, (.un 0 (.nv 7) (.lit 0))), (200, (.un 0 (.nv 8) (.lit 0))), (201, (.un 0 (.nv 8) (.lit 1))), (202, (.un 0 (.nv 8) (.lit 2))), (203, (.un 0 (.nv 8) (.lit 3))), (204, (.un 0 (.nv 8) (.lit 4))), (205, (.un 0 (.nv 8) (.lit 5))), (206, (.un 0 (.nv 8) (.lit 6))), (207, (.un 0 (.nv 8) (.lit 7))), (208, (.un 0 (.nv 8) (.lit 8))), (209, (.un 0 (.nv 8) (.lit 9))), (210, (.un 0 (.nv 8) (.lit 10))), (211, (.un 0 (.nv 8) (.lit 11))), (212, (.un 0 (.nv 8) (.lit 12))), (213, (.un 0 (.nv 8) (.lit 13))), (214, (.un 0 (.nv 8) (.lit 14))), (215, (.un 0 (.nv 8) (.lit 15))), (216, (.un 0 (.nv 8) (.lit 16))), (217, (.un 0 (.nv 8) (.lit 17))), (218, (.un 0 (.nv 8) (.lit 18)))], [], [], [], [(2, 2), (3, 3), (5, 5)]⟩,
 .next 0 (.inLoop ab0 :: ak0) [((.cmp .leq (.fn 93 (.nv 9) (.lit 0)) (.bin .add .i64 (.lit 0) (.lit 1))), true), qla2xx3, qla2xx1, qla2xx2, qla2xx0] ⟨[(63, (.var 63)), (220, (.bin .add .i64 (.var 220) (.lit 1))), (221, (.un 0 (.nv 7) (.lit 0))), (200, (.un 0 (.nv 8) (.lit 0))), (201, (.un 0 (.nv 8) (.lit 1))), (202, (.un 0 (.nv 8) (.lit 2))), (203, (.un 0 (.nv 8) (.lit 3))), (204, (.un 0 (.nv 8) (.lit 4))), (205, (.un 0 (.nv 8) (.lit 5))), (206, (.un 0 (.nv 8) (.lit 6))), (207, (.un 0 (.nv 8) (.lit 7))), (208, (.un 0 (.nv 8) (.lit 8))), (209, (.un 0 (.nv 8) (.lit 9))), (210, (.un 0 (.nv 8) (.lit 10))), (211, (.un 0 (.nv 8) (.lit 11))), (212, (.un 0 (.nv 8) (.lit 12))), (219, (.nv 9)), (213, (.un 0 (.nv 8) (.lit 13))), (214, (.un 0 (.nv 8) (.lit 14))), (215, (.un 0 (.nv 8) (.lit 15))), (216, (.un 0 (.nv 8) (.lit 16))), (217, (.un 0 (.nv 8) (.lit 17))), (218, (.un 0 (.nv 8) (.lit 18)))], [], [], [], [(2, 2), (3, 3), (5, 5), (4, 10)]⟩,
 .next 1 (.inLoop ab0 :: ak0) [qla2xx3, qla2xx1, qla2xx2, qla2xx0] ⟨[(63, (.var 63)), (220, (.bin .add .i64 (.var 220) (.lit 1))), (221, (.un 0 (.nv 10) (.lit 0))), (200, (.un 0 (.nv 11) (.lit 0))), (201, (.un 0 (.nv 11) (.lit 1))), (202, (.un 0 (.nv 11) (.lit 2))), (203, (.un 0 (.nv 11) (.lit 3))), (204, (.un 0 (.nv 11) (.lit 4))), (205, (.un 0 (.nv 11) (.lit 5))), (206, (.un 0 (.nv 11) (.lit 6))), (207, (.un 0 (.nv 11) (.lit 7))), (208, (.un 0 (.nv 11) (.lit 8))), (209, (.un 0 (.nv 11) (.lit 9))), (210, (.un 0 (.nv 11) (.lit 10))), (211, (.un 0 (.nv 11) (.lit 11))), (212, (.un 0 (.nv 11) (.lit 12))), (213, (.un 0 (.nv 11) (.lit 13))), (214, (.un 0 (.nv 11) (.lit 14))), (215, (.un 0 (.nv 11) (.lit 15))), (216, (.un 0 (.nv 11) (.lit 16))), (217, (.un 0 (.nv 11) (.lit 17))), (218, (.un 0 (.nv 11) (.lit 18)))], [], [], [], [(2, 2), (3, 3), (5, 5)]⟩,
 .next 0 (.inLoop ab0 :: ak0) [qla2xx6, qla2xx3, qla2xx1, qla2xx2, qla2xx0] ⟨[(63, (.var 63)), (220, (.bin .add .i64 (.var 220) (.lit 1))), (221, (.un 0 (.nv 10) (.lit 0))), (200, (.un 0 (.nv 11) (.lit 0))), (201, (.un 0 (.nv 11) (.lit 1))), (202, (.un 0 (.nv 11) (.lit 2))), (203, (.un 0 (.nv 11) (.lit 3))), (204, (.un 0 (.nv 11) (.lit 4))), (205, (.un 0 (.nv 11) (.lit 5))), (206, (.un 0 (.nv 11) (.lit 6))), (207, (.un 0 (.nv 11) (.lit 7))), (208, (.un 0 (.nv 11) (.lit 8))), (209, (.un 0 (.nv 11) (.lit 9))), (210, (.un 0 (.nv 11) (.lit 10))), (211, (.un 0 (.nv 11) (.lit 11))), (212, (.un 0 (.nv 11) (.lit 12))), (219, (.nv 12)), (213, (.un 0 (.nv 11) (.lit 13))), (214, (.un 0 (.nv 11) (.lit 14))), (215, (.un 0 (.nv 11) (.lit 15))), (216, (.un 0 (.nv 11) (.lit 16))), (217, (.un 0 (.nv 11) (.lit 17))), (218, (.un 0 (.nv 11) (.lit 18)))], [], [], [], [(2, 2), (3, 3), (5, 5), (4, 13)]⟩,
 .next 1 (.inLoop ab0 :: ak0) [qla2xx5, qla2xx1, qla2xx2, qla2xx0] ⟨[(63, (.var 63)), (220, (.bin .add .i64 (.var 220) (.lit 1))), (221, (.un 0 (.nv 10) (.lit 0))), (200, (.un 0 (.nv 11) (.lit 0))), (201, (.un 0 (.nv 11) (.lit 1))), (202, (.un 0 (.nv 11) (.lit 2))), (203, (.un 0 (.nv 11) (.lit 3))), (204, (.un 0 (.nv 11) (.lit 4))), (205, (.un 0 (.nv 11) (.lit 5))), (206, (.un 0 (.nv 11) (.lit 6))), (207, (.un 0 (.nv 11) (.lit 7))), (208, (.un 0 (.nv 11) (.lit 8))), (209, (.un 0 (.nv 11) (.lit 9))), (210, (.un 0 (.nv 11) (.lit 10))), (211, (.un 0 (.nv 11) (.lit 11))), (212, (.un 0 (.nv 11) (.lit 12))), (213, (.un 0 (.nv 11) (.lit 13))), (214, (.un 0 (.nv 11) (.lit 14))), (215, (.un 0 (.nv 11) (.lit 15))), (216, (.un 0 (.nv 11) (.lit 16))), (217, (.un 0 (.nv 11) (.lit 17))), (218, (.un 0 (.nv 11) (.lit 18)))], [], [], [], [(2, 2), (3, 3), (5, 5)]⟩,
 .next 0 (.inLoop ab0 :: ak0) [qla2xx6, qla2xx5, qla2xx1, qla2xx2, qla2xx0] ⟨[(63, (.var 63)), (220, (.bin .add .i64 (.var 220) (.lit 1))), (221, (.un 0 (.nv 10) (.lit 0))), (200, (.un 0 (.nv 11) (.lit 0))), (201, (.un 0 (.nv 11) (.lit 1))), (202, (.un 0 (.nv 11) (.lit 2))), (203, (.un 0 (.nv 11) (.lit 3))), (204, (.un 0 (.nv 11) (.lit 4))), (205, (.un 0 (.nv 11) (.lit 5))), (206, (.un 0 (.nv 11) (.lit 6))), (207, (.un 0 (.nv 11) (.lit 7))), (208, (.un 0 (.nv 11) (.lit 8))), (209, (.un 0 (.nv 11) (.lit 9))), (210, (.un 0 (.nv 11) (.lit 10))), (211, (.un 0 (.nv 11) (.lit 11))), (212, (.un 0 (.nv 11) (.lit 12))), (219, (.nv 12)), (213, (.un 0 (.nv 11) (.lit 13))), (214, (.un 0 (.nv 11) (.lit 14))), (215, (.un 0 (.nv 11) (.lit 15))), (216, (.un 0 (.nv 11) (.lit 16))), (217, (.un 0 (.nv 11) (.lit 17))), (218, (.un 0 (.nv 11) (.lit 18)))], [], [], [], [(2, 2), (3, 3), (5, 5), (4, 13)]⟩,
 .done 0 [((.cmp .lss (.var 220) (.var 63)), false), qla2xx0] ⟨[(200, (.var 200)), (201, (.var 201)), (202, (.var 202)), (203, (.var 203)), (204, (.var 204)), (205, (.var 205)), (206, (.var 206)), (207, (.var 207)), (208, (.var 208)), (209, (.var 209)), (210, (.var 210)), (211, (.var 211)), (212, (.var 212)), (213, (.var 213)), (214, (.var 214)), (215, (.var 215)), (216, (.var 216)), (217, (.var 217)), (218, (.var 218)), (221, (.var 221))], [], [], [], [(3, 3)]⟩]
noncomputable def sums_b : List LM := [.next 1 (.inLoop ab0 :: ak0) [qla2xx3, qla2xx1, qla2xx2, qla2xx4, qla2xx0] ⟨[(63, (.var 63)), (220, (.bin .add .i64 (.var 220) (.lit 1))), (221, (.un 0 (.nv 7) (.lit 0))), (200, (.un 0 (.nv 8) (.lit 0))), (201, (.un 0 (.nv 8) (.lit 1))), (202, (.un 0 (.nv 8) (.lit 2))), (203, (.un 0 (.nv 8) (.lit 3))), (204, (.un 0 (.nv 8) (.lit 4))), (205, (.un 0 (.nv 8) (.lit 5))), (206, (.un 0 (.nv 8) (.lit 6))), (207, (.un 0 (.nv 8) (.lit 7))), (208, (.un 0 (.nv 8) (.lit 8))), (209, (.un 0 (.nv 8) (.lit 9))), (210, (.un 0 (.nv 8) (.lit 10))), (211, (.un 0 (.nv 8) (.lit 11))), (212, (.un 0 (.nv 8) (.lit 12))), (213, (.un 0 (.nv 8) (.lit 13))), (214, (.un 0 (.nv 8) (.lit 14))), (215, (.un 0 (.nv 8) (.lit 15))), (216, (.un 0 (.nv 8) (.lit 16))), (217, (.un 0 (.nv 8) (.lit 17))), (218, (.un 0 (.nv 8) (.lit 18)))], [], [], [], [(2, 2), (3, 3), (5, 5)]⟩,
 .next 0 (.inLoop ab0 :: ak0) [((.cmp .leq (.fn 93 (.nv 9) (.lit 0)) (.bin .add .i64 (.fn 93 (.var 219) (.lit 0)) (.lit 1))), true), qla2xx3, qla2xx1, qla2xx2, qla2xx4, qla2xx0] ⟨[(63, (.var 63)), (220, (.bin .add .i64 (.var 220) (.lit 1))), (221, (.un 0 (.nv 7) (.lit 0))), (200, (.un 0 (.nv 8) (.lit 0))), (201, (.un 0 (.nv 8) (.lit 1))), (202, (.un 0 (.nv 8) (.lit 2))), (203, (.un 0 (.nv 8) (.lit 3))), (204, (.un 0 (.nv 8) (.lit 4))), (205, (.un 0 (.nv 8) (.lit 5))), (206, (.un 0 (.nv 8) (.lit 6))), (207, (.un 0 (.nv 8) (.lit 7))), (208, (.un 0 (.nv 8) (.lit 8))), (209, (.un 0 (.nv 8) (.lit 9))), (210, (.un 0 (.nv 8) (.lit 10))), (211, (.un 0 (.nv 8) (.lit 11))), (212, (.un 0 (.nv 8) (.lit 12))), (219, (.nv 9)), (213, (.un 0 (.nv 8) (.lit 13))), (214, (.un 0 (.nv 8) (.lit 14))), (215, (.un 0 (.nv 8) (.lit 15))), (216, (.un 0 (.nv 8) (.lit 16))), (217, (.un 0 (.nv 8) (.lit 17))), (218, (.un 0 (.nv 8) (.lit 18)))], [], [], [], [(2, 2), (3, 3), (5, 5), (4, 10)]⟩,
 .next 1 (.inLoop ab0 :: ak0) [qla2xx3, qla2xx1, qla2xx2, qla2xx4, qla2xx0] ⟨[(63, (.var 63)), (220, (.bin .add .i64 (.var 220) (.lit 1))), (221, (.un 0 (.nv 10) (.lit 0))), (200, (.un 0 (.nv 11) (.lit 0))), (201, (.un 0 (.nv 11) (.lit 1))), (202, (.un 0 (.nv 11) (.lit 2))), (203, (.un 0 (.nv 11) (.lit 3))), (204, (.un 0 (.nv 11) (.lit 4))), (205, (.un 0 (.nv 11) (.lit 5))), (206, (.un 0 (.nv 11) (.lit 6))), (207, (.un 0 (.nv 11) (.lit 7))), (208, (.un 0 (.nv 11) (.lit 8))), (209, (.un 0 (.nv 11) (.lit 9))), (210, (.un 0 (.nv 11) (.lit 10))), (211, (.un 0 (.nv 11) (.lit 11))), (212, (.un 0 (.nv 11) (.lit 12))), (213, (.un 0 (.nv 11) (.lit 13))), (214, (.un 0 (.nv 11) (.lit 14))), (215, (.un 0 (.nv 11) (.lit 15))), (216, (.un 0 (.nv 11) (.lit 16))), (217, (.un 0 (.nv 11) (.lit 17))), (218, (.un 0 (.nv 11) (.lit 18)))], [], [], [], [(2, 2), (3, 3), (5, 5)]⟩,
 .next 0 (.inLoop ab0 :: ak0) [qla2xx7, qla2xx3, qla2xx1, qla2xx2, qla2xx4, qla2xx0] ⟨[(63, (.var 63)), (220, (.bin .add .i64 (.var 220) (.lit 1))), (221, (.un 0 (.nv 10) (.lit 0))), (200, (.un 0 (.nv 11) (.lit 0))), (201, (.un 0 (.nv 11) (.lit 1))), (202, (.un 0 (.nv 11) (.lit 2))), (203, (.un 0 (.nv 11) (.lit 3))), (204, (.un 0 (.nv 11) (.lit 4))), (205, (.un 0 (.nv 11) (.lit 5))), (206, (.un 0 (.nv 11) (.lit 6))), (207, (.un 0 (.nv 11) (.lit 7))), (208, (.un 0 (.nv 11) (.lit 8))), (209, (.un 0 (.nv 11) (.lit 9))), (210, (.un 0 (.nv 11) (.lit 10))), (211, (.un 0 (.nv 11) (.lit 11))), (212, (.un 0 (.nv 11) (.lit 12))), (219, (.nv 12)), (213, (.un 0 (.nv 11) (.lit 13))), (214, (.un 0 (.nv 11) (.lit 14))), (215, (.un 0 (.nv 11) (.lit 15))), (216, (.un 0 (.nv 11) (.lit 16))), (217, (.un 0 (.nv 11) (.lit 17))), (218, (.un 0 (.nv 11) (.lit 18)))], [], [], [], [(2, 2), (3, 3), (5, 5), (4, 13)]⟩,
 .next 1 (.inLoop ab0 :: ak0) [qla2xx5, qla2xx1, qla2xx2, qla2xx4, qla2xx0] ⟨[(63, (.var 63)), (220, (.bin .add .i64 (.var 220) (.lit 1))), (221, (.un 0 (.nv 10) (.lit 0))), (200, (.un 0 (.nv 11) (.lit 0))), (201, (.un 0 (.nv 11) (.lit 1))), (202, (.un 0 (.nv 11) (.lit 2))), (203, (.un 0 (.nv 11) (.lit 3))), (204, (.un 0 (.nv 11) (.lit 4))), (205, (.un 0 (.nv 11) (.lit 5))), (206, (.un 0 (.nv 11) (.lit 6))), (207, (.un 0 (.nv 11) (.lit 7))), (208, (.un 0 (.nv 11) (.lit 8))), (209, (.un 0 (.nv 11) (.lit 9))), (210, (.un 0 (.nv 11) (.lit 10))), (211, (.un 0 (.nv 11) (.lit 11))), (212, (.un 0 (.nv 11) (.lit 12))), (213, (.un 0 (.nv 11) (.lit 13))), (214, (.un 0 (.nv 11) (.lit 14))), (215, (.un 0 (.nv 11) (.lit 15))), (216, (.un 0 (.nv 11) (.lit 16))), (217, (.un 0 (.nv 11) (.lit 17))), (218, (.un 0 (.nv 11) (.lit 18)))], [], [], [], [(2, 2), (3, 3), (5, 5)]⟩,
 .next 0 (.inLoop ab0 :: ak0) [qla2xx7, qla2xx5, qla2xx1, qla2xx2, qla2xx4, qla2xx0] ⟨[(63, (.var 63)), (220, (.bin .add .i64 (.var 220) (.lit 1))), (221, (.un 0 (.nv 10) (.lit 0))), (200, (.un 0 (.nv 11) (.lit 0))), (201, (.un 0 (.nv 11) (.lit 1))), (202, (.un 0 (.nv 11) (.lit 2))), (203, (.un 0 (.nv 11) (.lit 3))), (204, (.un 0 (.nv 11) (.lit 4))), (205, (.un 0 (.nv 11) (.lit 5))), (206, (.un 0 (.nv 11) (.lit 6))), (207, (.un 0 (.nv 11) (.lit 7))), (208, (.un 0 (.nv 11) (.lit 8))), (209, (.un 0 (.nv 11) (.lit 9))), (210, (.un 0 (.nv 11) (.lit 10))), (211, (.un 0 (.nv 11) (.lit 11))), (212, (.un 0 (.nv 11) (.lit 12))), (219, (.nv 12)), (213, (.un 0 (.nv 11) (.lit 13))), (214, (.un 0 (.nv 11) (.lit 14))), (215, (.un 0 (.nv 11) (.lit 15))), (216, (.un 0 (.nv 11) (.lit 16))), (217, (.un 0 (.nv 11) (.lit 17))), (218, (.un 0 (.nv 11) (.lit 18)))], [], [], [], [(2, 2), (3, 3), (5, 5), (4, 13)]⟩,
 .done 1 [((.cmp .lss (.var 220) (.var 63)), false), qla2xx4, qla2xx0] ⟨[(200, (.var 200)), (201, (.var 201)), (202, (.var 202)), (203, (.var 203)), (204, (.var 204)), (205, (.var 205)), (206, (.var 206)), (207, (.var 207)), (208, (.var 208)), (209, (.var 209)), (210, (.var 210)), (211, (.var 211)), (212, (.var 212)), (219, (.var 219)), (213, (.var 213)), (214, (.var 214)), (215, (.var 215)), (216, (.var 216)), (217, (.var 217)), (218, (.var 218)), (221, (.var 221))], [], [], [], [(3, 3), (4, 4)]⟩]
theorem run_e : (run Try.prog [] sp22 4000 true 22 (entry Try.f22 (Try.f22.body.getD .ret) [.int .i64 (.lit 60000), .var 60] .leaf 1 [])).map (·.filterMap (sumMO g22 [] e22 [tB, tN])) = some sums_e := by kernel_rfl
theorem run_n : (run Try.prog [] sp22 4000 true 22 (tN.st (.code ab0 :: .inLoop ab0 :: ak0))).map (·.filterMap (sumMO g22 [] e22 [tB, tN])) = some sums_n := by kernel_rfl
theorem run_b : (run Try.prog [] sp22 4000 true 22 (tB.st (.code ab0 :: .inLoop ab0 :: ak0))).map (·.filterMap (sumMO g22 [] e22 [tB, tN])) = some sums_b := by kernel_rfl
end La
end Go.Proofs.Ytighjgmgpphohaa
end
