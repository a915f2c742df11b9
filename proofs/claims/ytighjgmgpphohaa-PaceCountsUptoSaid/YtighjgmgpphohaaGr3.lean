/- The reference's arena (3): the runs. -/
import Derived.Test.YtighjgmgpphohaaRf2
import Derived.Test.YtighjgmgpphohaaVm40
section
namespace Go.Proofs.Ytighjgmgpphohaa
open Go.Vm Go.Vm.Le Go.Vm.Mb
namespace Rf
open Ar (iV uV pT okR)
noncomputable def ub : Code := ((loopsOf (Try.f59.body.getD .ret) []).getD 0 (.ret, [])).1
noncomputable def uk : List Item := ((loopsOf (Try.f59.body.getD .ret) []).getD 0 (.ret, [])).2
noncomputable def lb : Code := ((loopsOf (Try.f47.body.getD .ret) []).getD 0 (.ret, [])).1
noncomputable def lk0 : List Item := ((loopsOf (Try.f47.body.getD .ret) []).getD 0 (.ret, [])).2
noncomputable def sums_un : List LM := [.done 0 [] ⟨[(230, (.lit 0))], [], [], [], []⟩]
noncomputable def sums_ue : List LM := [.next 0 (.code (.loop ub) :: uk) [] ⟨[(221, (.lit 0)), (219, (.var 219)), (220, (.lit 0)), (200, (.var 200)), (201, (.var 201)), (202, (.var 202)), (203, (.var 203)), (204, (.var 204)), (205, (.var 205)), (206, (.var 206)), (207, (.var 207)), (208, (.var 208)), (209, (.var 209)), (210, (.var 210)), (211, (.var 211)), (212, (.var 212)), (213, (.var 213)), (214, (.var 214)), (215, (.var 215)), (216, (.var 216)), (217, (.var 217)), (218, (.var 218))], [], [], [], [(5, 5), (4, 4)]⟩]
abbrev qgr30 : BT × Bool := ((.cmp .geq (.lit 0) (.lit 0)), true)
abbrev qgr31 : BT × Bool := ((.cmp .geq (.var 223) (.lit 1)), true)
abbrev qgr32 : BT × Bool := ((.cmp .leq (.var 223) (.lit 2048)), true)
abbrev qgr33 : BT × Bool := ((.cmp .geq (.var 220) (.lit 0)), true)
abbrev qgr34 : BT × Bool := ((.cmp .leq (.fn 93 (.var 219) (.lit 0)) (.lit 1000000)), true)
abbrev qgr35 : BT × Bool := ((.cmp .leq (.var 223) (.lit 1000000)), true)
abbrev qgr36 : BT × Bool := ((.cmp .eql (.var 223) (.lit 0)), false)
abbrev qgr37 : BT × Bool := ((.cmp .gtr (.var 223) (.lit 2048)), false)
abbrev qgr38 : BT × Bool := ((.cmp .leq (.lit 0) (.var 220)), true)
abbrev qgr39 : BT × Bool := ((.cmp .leq (.var 220) (.fn 93 (.var 219) (.lit 0))), true)
abbrev qgr310 : BT × Bool := ((.cmp .leq (.var 220) (.un 0 (.var 219) (.lit 0))), true)
abbrev qgr311 : BT × Bool := ((.cmp .leq (.var 220) (.lit 1000000)), true)
abbrev qgr312 : BT × Bool := ((.cmp .leq (.un 14 (.fn 93 (.var 219) (.lit 0)) (.var 220)) (.lit 1000000)), true)
abbrev qgr313 : BT × Bool := ((.cmp .lss (.var 220) (.fn 93 (.var 219) (.lit 0))), true)
abbrev qgr314 : BT × Bool := ((.cmp .eql (.fn 93 (.nv 17) (.lit 0)) (.bin .add .i64 (.fn 93 (.nv 15) (.lit 0)) (.un 14 (.fn 93 (.var 219) (.lit 0)) (.var 220)))), true)
abbrev qgr315 : BT × Bool := ((.cmp .leq (.fn 93 (.nv 17) (.lit 0)) (.lit 2000001)), true)
abbrev qgr316 : BT × Bool := ((.cmp .leq (.fn 93 (.nv 17) (.lit 0)) (.un 0 (.nv 17) (.lit 0))), true)
abbrev qgr317 : BT × Bool := ((.cmp .geq (.fn 93 (.nv 17) (.lit 0)) (.lit 0)), true)
abbrev qgr318 : BT × Bool := ((.cmp .eql (.fn 93 (.nv 15) (.lit 0)) (.bin .add .i64 (.fn 93 (.nv 9) (.lit 0)) (.lit 1))), true)
abbrev qgr319 : BT × Bool := ((.cmp .leq (.fn 93 (.nv 15) (.lit 0)) (.lit 1000001)), true)
abbrev qgr320 : BT × Bool := ((.cmp .leq (.fn 93 (.nv 15) (.lit 0)) (.un 0 (.nv 15) (.lit 0))), true)
abbrev qgr321 : BT × Bool := ((.cmp .geq (.fn 93 (.nv 15) (.lit 0)) (.lit 0)), true)
abbrev qgr322 : BT × Bool := ((.cmp .eql (.fn 93 (.nv 9) (.lit 0)) (.bin .add .i64 (.lit 0) (.var 220))), true)
abbrev qgr323 : BT × Bool := ((.cmp .leq (.fn 93 (.nv 9) (.lit 0)) (.lit 1000000)), true)
abbrev qgr324 : BT × Bool := ((.cmp .leq (.fn 93 (.nv 9) (.lit 0)) (.un 0 (.nv 9) (.lit 0))), true)
abbrev qgr325 : BT × Bool := ((.cmp .geq (.fn 93 (.nv 9) (.lit 0)) (.lit 0)), true)
abbrev qgr326 : BT × Bool := ((.cmp .lss (.var 220) (.fn 93 (.var 219) (.lit 0))), false)
abbrev qgr327 : BT × Bool := ((.cmp .gtr (.bin .add .i64 (.un 0 (.nv 7) (.lit 0)) (.var 223)) (.var 200)), false)
abbrev qgr328 : BT × Bool := ((.cmp .gtr (.bin .add .i64 (.un 0 (.nv 7) (.lit 0)) (.var 223)) (.var 200)), true)
abbrev qgr329 : BT × Bool := ((.cmp .eql (.fn 93 (.nv 18) (.lit 0)) (.bin .add .i64 (.fn 93 (.nv 16) (.lit 0)) (.lit 0))), true)
abbrev qgr330 : BT × Bool := ((.cmp .leq (.fn 93 (.nv 18) (.lit 0)) (.lit 1)), true)
abbrev qgr331 : BT × Bool := ((.cmp .leq (.fn 93 (.nv 18) (.lit 0)) (.un 0 (.nv 18) (.lit 0))), true)
abbrev qgr332 : BT × Bool := ((.cmp .geq (.fn 93 (.nv 18) (.lit 0)) (.lit 0)), true)
abbrev qgr333 : BT × Bool := ((.cmp .eql (.fn 93 (.nv 16) (.lit 0)) (.bin .add .i64 (.fn 93 (.nv 10) (.lit 0)) (.lit 1))), true)
abbrev qgr334 : BT × Bool := ((.cmp .leq (.fn 93 (.nv 16) (.lit 0)) (.lit 1)), true)
abbrev qgr335 : BT × Bool := ((.cmp .leq (.fn 93 (.nv 16) (.lit 0)) (.un 0 (.nv 16) (.lit 0))), true)
abbrev qgr336 : BT × Bool := ((.cmp .geq (.fn 93 (.nv 16) (.lit 0)) (.lit 0)), true)
abbrev qgr337 : BT × Bool := ((.cmp .eql (.fn 93 (.nv 10) (.lit 0)) (.bin .add .i64 (.lit 0) (.lit 0))), true)
abbrev qgr338 : BT × Bool := ((.cmp .leq (.fn 93 (.nv 10) (.lit 0)) (.lit 0)), true)
abbrev qgr339 : BT × Bool := ((.cmp .leq (.fn 93 (.nv 10) (.lit 0)) (.un 0 (.nv 10) (.lit 0))), true)
abbrev qgr340 : BT × Bool := ((.cmp .geq (.fn 93 (.nv 10) (.lit 0)) (.lit 0)), true)
abbrev qgr341 : BT × Bool := ((.cmp .gtr (.un 0 (.nv 19) (.lit 0)) (.var 202)), true)
abbrev qgr342 : BT × Bool := ((.cmp .eql (.bin .rem .u64 (.fn 94 (.var 219) (.var 220)) (.lit 65536)) (.cv .u64 (.bin .add .i64 (.var 220) (.lit 1)))), false)
abbrev qgr343 : BT × Bool := ((.cmp .gtr (.un 0 (.nv 19) (.lit 0)) (.var 202)), false)
noncomputable def sums_ul : List LM := [.next 0 (.inLoop ub :: uk) [((.cmp .geq (.nv 8) (.lit 0)), true), qgr313, qgr33] ⟨[(221, (.bin .add .i64 (.var 221) (.nv 8))), (219, (.var 219)), (220, (.bin .add .i64 (.var 220) (.lit 1))), (200, (.var 200)), (201, (.var 201)), (202, (.var 202)), (203, (.var 203)), (204, (.var 204)), (205, (.var 205)), (206, (.var 206)), (207, (.var 207)), (208, (.var 208)), (209, (.var 209)), (210, (.var 210)), (211, (.var 211)), (212, (.var 212)), (213, (.var 213)), (214, (.var 214)), (215, (.var 215)), (216, (.var 216)), (217, (.var 217)), (218, (.var 218))], [], [], [], [(5, 5), (4, 4)]⟩,
 .done 0 [qgr326, qgr33] ⟨[(230, (.var 221))], [], [], [], []⟩]
noncomputable def sums_ln : List LM := [.done 1 [qgr328, qgr36, qgr37, qgr30, qgr31, qgr32] ⟨[(230, (.var 200)), (231, (.var 201)), (232, (.var 202)), (233, (.var 203)), (234, (.var 204)), (235, (.var 205)), (236, (.var 206)), (237, (.var 207)), (238, (.var 208)), (239, (.var 209)), (240, (.var 210)), (241, (.var 211)), (242, (.var 212)), (243, (.var 213)), (244, (.var 214)), (245, (.var 215)), (246, (.var 216)), (247, (.var 217)), (248, (.var 218)), (250, (.lit 0)), (251, (.lit 20))], [], [], [], []⟩,
 .done 0 [((.cmp .gtr (.un 0 (.nv 20) (.lit 0)) (.var 202)), true), qgr329, qgr330, qgr331, qgr332, qgr333, qgr334, qgr335, qgr336, qgr35, qgr337, qgr338, qgr339, qgr340, qgr327, qgr36, qgr37, qgr30, qgr31, qgr32] ⟨[(230, (.var 200)), (231, (.bin .add .i64 (.var 201) (.lit 1))), (232, (.un 0 (.nv 20) (.lit 0))), (233, (.var 203)), (234, (.var 204)), (235, (.var 205)), (236, (.var 206)), (237, (.var 207)), (238, (.var 208)), (239, (.var 209)), (240, (.var 210)), (241, (.var 211)), (242, (.var 212)), (249, (.nv 18)), (243, (.bin .add .i64 (.var 213) (.lit 1))), (244, (.var 214)), (245, (.var 215)), (246, (.var 216)), (247, (.var 217)), (248, (.var 218)), (250, (.un 0 (.nv 8) (.lit 0))), (251, (.lit 0))], [], [], [], [(4, 19)]⟩,
 .done 0 [((.cmp .gtr (.un 0 (.nv 20) (.lit 0)) (.var 202)), false), qgr329, qgr330, qgr331, qgr332, qgr333, qgr334, qgr335, qgr336, qgr35, qgr337, qgr338, qgr339, qgr340, qgr327, qgr36, qgr37, qgr30, qgr31, qgr32] ⟨[(230, (.var 200)), (231, (.bin .add .i64 (.var 201) (.lit 1))), (232, (.var 202)), (233, (.var 203)), (234, (.var 204)), (235, (.var 205)), (236, (.var 206)), (237, (.var 207)), (238, (.var 208)), (239, (.var 209)), (240, (.var 210)), (241, (.var 211)), (242, (.var 212)), (249, (.nv 18)), (243, (.bin .add .i64 (.var 213) (.lit 1))), (244, (.var 214)), (245, (.var 215)), (246, (.var 216)), (247, (.var 217)), (248, (.var 218)), (250, (.un 0 (.nv 8) (.lit 0))), (251, (.lit 0))], [], [], [], [(4, 19)]⟩]
noncomputable def sums_le : List LM := [.done 0 [qgr328, qgr34, qgr36, qgr37, qgr30, qgr31, qgr32] ⟨[(230, (.var 200)), (231, (.var 201)), (232, (.var 202)), (233, (.var 203)), (234, (.var 204)), (235, (.var 205)), (236, (.var 206)), (237, (.var 207)), (238, (.var 208)), (239, (.var 209)), (240, (.var 210)), (241, (.var 211)), (242, (.var 212)), (249, (.var 219)), (243, (.var 213)), (244, (.var 214)), (245, (.var 215)), (246, (.var 216)), (247, (.var 217)), (248, (.var 218)), (250, (.lit 0)), (251, (.lit 20))], [], [], [], [(4, 4)]⟩,
 .next 0 (.code (.loop lb) :: lk0) [qgr327, qgr34, qgr36, qgr37, qgr30, qgr31, qgr32] ⟨[(224, (.var 224)), (223, (.var 223)), (220, (.lit 0)), (222, (.var 222)), (200, (.var 200)), (201, (.var 201)), (202, (.var 202)), (203, (.var 203)), (204, (.var 204)), (205, (.var 205)), (206, (.var 206)), (207, (.var 207)), (208, (.var 208)), (209, (.var 209)), (210, (.var 210)), (211, (.var 211)), (212, (.var 212)), (219, (.var 219)), (213, (.var 213)), (214, (.var 214)), (215, (.var 215)), (216, (.var 216)), (217, (.var 217)), (218, (.var 218))], [], [], [], [(1, 1), (2, 2), (5, 5), (6, 6), (4, 4)]⟩]
noncomputable def sums_ll : List LM := [.next 0 (.inLoop lb :: lk0) [((.cmp .eql (.bin .rem .u64 (.fn 94 (.var 219) (.var 220)) (.lit 65536)) (.cv .u64 (.bin .add .i64 (.var 220) (.lit 1)))), true), qgr313, qgr33, qgr38, qgr39, qgr310, qgr34, qgr311, qgr312, qgr30, qgr31, qgr32] ⟨[(224, (.var 224)), (223, (.var 223)), (220, (.bin .add .i64 (.var 220) (.lit 1))), (222, (.var 222)), (200, (.var 200)), (201, (.var 201)), (202, (.var 202)), (203, (.var 203)), (204, (.var 204)), (205, (.var 205)), (206, (.var 206)), (207, (.var 207)), (208, (.var 208)), (209, (.var 209)), (210, (.var 210)), (211, (.var 211)), (212, (.var 212)), (219, (.var 219)), (213, (.var 213)), (214, (.var 214)), (215, (.var 215)), (216, (.var 216)), (217, (.var 217)), (218, (.var 218))], [], [], [], [(1, 1), (2, 2), (5, 5), (6, 6), (4, 4)]⟩,
 .done 0 [qgr341, qgr314, qgr315, qgr316, qgr317, qgr318, qgr319, qgr320, qgr321, qgr35, qgr322, qgr323, qgr324, qgr325, qgr342, qgr313, qgr33, qgr38, qgr39, qgr310, qgr34, qgr311, qgr312, qgr30, qgr31, qgr32] ⟨[(230, (.var 200)), (231, (.bin .add .i64 (.var 201) (.lit 1))), (232, (.un 0 (.nv 19) (.lit 0))), (233, (.var 203)), (234, (.var 204)), (235, (.var 205)), (236, (.var 206)), (237, (.var 207)), (238, (.var 208)), (239, (.var 209)), (240, (.var 210)), (241, (.var 211)), (242, (.var 212)), (249, (.nv 17)), (243, (.bin .add .i64 (.var 213) (.lit 1))), (244, (.var 214)), (245, (.var 215)), (246, (.var 216)), (247, (.var 217)), (248, (.var 218)), (250, (.un 0 (.nv 7) (.lit 0))), (251, (.lit 0))], [], [], [], [(4, 18)]⟩,
 .done 0 [qgr343, qgr314, qgr315, qgr316, qgr317, qgr318, qgr319, qgr320, qgr321, qgr35, qgr322, qgr323, qgr324, qgr325, qgr342, qgr313, qgr33, qgr38, qgr39, qgr310, qgr34, qgr311, qgr312, qgr30, qgr31, qgr32] ⟨[(230, (.var 200)), (231, (.bin .add .i64 (.var 201) (.lit 1))), (232, (.var 202)), (233, (.var 203)), (234, (.var 204)), (235, (.var 205)), (236, (.var 206)), (237, (.var 207)), (238, (.var 208)), (239, (.var 209)), (240, (.var 210)), (241, (.var 211)), (242, (.var 212)), (249, (.nv 17)), (243, (.bin .add .i64 (.var 213) (.lit 1))), (244, (.var 214)), (245, (.var 215)), (246, (.var 216)), (247, (.var 217)), (248, (.var 218)), (250, (.un 0 (.nv 7) (.lit 0))), (251, (.lit 0))], [], [], [], [(4, 18)]⟩,
 .done 0 [qgr341, qgr314, qgr315, qgr316, qgr317, qgr318, qgr319, qgr320, qgr321, qgr35, qgr322, qgr323, qgr324, qgr325, qgr326, qgr33, qgr38, qgr39, qgr310, qgr34, qgr311, qgr312, qgr30, qgr31, qgr32] ⟨[(230, (.var 200)), (231, (.bin .add .i64 (.var 201) (.lit 1))), (232, (.un 0 (.nv 19) (.lit 0))), (233, (.var 203)), (234, (.var 204)), (235, (.var 205)), (236, (.var 206)), (237, (.var 207)), (238, (.var 208)), (239, (.var 209)), (240, (.var 210)), (241, (.var 211)), (242, (.var 212)), (249, (.nv 17)), (243, (.bin .add .i64 (.var 213) (.lit 1))), (244, (.var 214)), (245, (.var 215)), (246, (.var 216)), (247, (.var 217)), (248, (.var 218)), (250, (.un 0 (.nv 7) (.lit 0))), (251, (.lit 0))], [], [], [], [(4, 18)]⟩,
 .done 0 [qgr343, qgr314, qgr315, qgr316, qgr317, qgr318, qgr319, qgr320, qgr321, qgr35, qgr322, qgr323, qgr324, qgr325, qgr326, qgr33, qgr38, qgr39, qgr310, qgr34, qgr311, qgr312, qgr30, qgr31, qgr32] ⟨[(230, (.var 200)), (231, (.bin .add .i64 (.var 201) (.lit 1))), (232, (.var 202)), (233, (.var 203)), (234, (.var 204)), (235, (.var 205)), (236, (.var 206)), (237, (.var 207)), (238, (.var 208)), (239, (.var 209)), (240, (.var 210)), (241, (.var 211)), (242, (.var 212)), (249, (.nv 17)), (243, (.bin .add .i64 (.var 213) (.lit 1))), (244, (.var 214)), (245, (.var 215)), (246, (.var 216)), (247, (.var 217)), (248, (.var 218)), (250, (.un 0 (.nv 7) (.lit 0))), (251, (.lit 0))], [], [], [], [(4, 18)]⟩]
def gL : Gen := ⟨252, 9, 0, 8⟩
theorem run60 : ((run Try.prog [] spU 4000 true 60 (entry Try.f60 (Try.f60.body.getD .ret) [uV 200, uV 201] .leaf 0 [])).map fun ls => (ls.filterMap (sumMD gU [] eH [])).all okR) = some true := by kernel_rfl
theorem run_un : (run Try.prog [] spU 4000 (PL.only []) 59 (entry Try.f59 (Try.f59.body.getD .ret) [.agg (refV .sliceNil)] .leaf 0 [])).map (·.filterMap (sumMO gU [] eU [tU])) = some sums_un := by kernel_rfl
theorem run_ue : (run Try.prog [] spU 4000 true 59 (entry Try.f59 (Try.f59.body.getD .ret) [.agg (refV Lb)] (ofP [(4, rwB false)]) 5 [])).map (·.filterMap (sumMO gU [] eU [tU])) = some sums_ue := by kernel_rfl
theorem run_ul : (run Try.prog [] spU 4000 true 59 (tU.st (.code ub :: .inLoop ub :: uk))).map (·.filterMap (sumMO gU [] eU [tU])) = some sums_ul := by kernel_rfl
theorem run_ln : (run Try.prog [] spL 4000 (PL.only []) 47 (entry Try.f47 (Try.f47.body.getD .ret) [.agg (refV .sliceNil), wW] (ofP [(1, rowW)]) 5 csF)).map (·.filterMap (sumMO gL [] eL [tL])) = some sums_ln := by kernel_rfl
theorem run_le : (run Try.prog [] spL 4000 true 47 (entry Try.f47 (Try.f47.body.getD .ret) [.agg (refV Lb), wW] (ofP [(1, rowW), (4, rwB true)]) 5 ((.cmp .leq (nbT (.var 219)) (.lit 1000000), true) :: csF))).map (·.filterMap (sumMO gL [] eL [tL])) = some sums_le := by kernel_rfl
theorem run_ll : (run Try.prog [] spL 4000 true 47 (tL.st (.code lb :: .inLoop lb :: lk0))).map (·.filterMap (sumMO gL [] eL [tL])) = some sums_ll := by kernel_rfl
end Rf
end Go.Proofs.Ytighjgmgpphohaa
end
section
namespace Go.Proofs.Ytighjgmgpphohaa
open Go.Vm Go.Vm.Le Go.Vm.Mb
namespace Gr
def iV (i : Nat) : AVal := .int .i64 (.var i)
def prB : HB := ⟨.cells [iV 67, .var 64, .var 66, .var 70] 49 none, false⟩
def hkG : OpF := orH (hkXLen 22) (orH (hkInLen 47 60 61) (orH (hkInLen 47 70 71) (orH (hkInLen 29 64 74) (orH (hkInLen 22 66 76) (orH (hkInA 47 60 61) (orH (hkInA 47 70 71) (orH (hkInL false 22 61 79) (orH (hkInL false 22 71 81) (hkStN 49 4 [64, 66, 70])))))))))
def spG : CallF := spLH [] hkG
def aG : List AVal := [.var 60, .slice 0 (.lit 0) (.lit 1) (.lit 1), .sliceNil]
def hG0 : List (Nat × HB) := [(0, prB)]
def sl1 : AVal := .slice 0 (.lit 0) (.lit 1) (.lit 1)
def csA : Cs := [(.cmp .geq (.var 201) (.lit 0), true)]
def csB : Cs := [(.cmp .geq (.var 203) (.lit 0), true)]
def tA : Tpl := ⟨[(1, sl1), (6, .bool (.lit false)), (7, iV 200), (16, .var 60), (17, iV 63), (18, iV 201)], 65, hG0, 1, csA, 3⟩
def tB : Tpl := ⟨[(1, sl1), (6, .bool (.lit false)), (7, iV 200), (28, sl1), (29, .int .i64 (.lit 1)), (30, .int .i64 (.lit 0)), (45, .var 70), (46, iV 73), (47, iV 203)], 65, hG0, 1, csB, 7⟩
def plG : PL := PL.only [3, 12]
end Gr
end Go.Proofs.Ytighjgmgpphohaa
end
section
namespace Go.Proofs.Ytighjgmgpphohaa
open Go.Vm Go.Vm.Le Go.Vm.Mb
namespace Gr
def keepsI (σ : Go.Vm.Sub) : Bool := σ.V.isEmpty && σ.I.all fun p => Nat.ble 200 p.1 || IT.beq p.2 (.var p.1)
theorem lk_keep : ∀ {l : List (Nat × IT)} {i : Nat} {t : IT}, (l.all fun p => Nat.ble 200 p.1 || IT.beq p.2 (.var p.1)) = true -> i < 200 -> lk l i = some t -> t = .var i
 | [], _, _, _, _, h => by cases h
 | (j, x) :: r, i, t, h, hi, hl => by
  simp only [List.all_cons, Bool.and_eq_true] at h
  simp only [lk] at hl
  cases hb : Nat.beq j i with
  | true =>
   rw [hb] at hl; cases hl
   have := Nat.eq_of_beq_eq_true hb
   subst this
   have h1 := h.1
   simp only [Bool.or_eq_true] at h1
   rcases h1 with h1 | h1
   · have := Nat.le_of_ble_eq_true h1; omega
   · exact IT.beq_eq h1
  | false =>
   rw [hb] at hl
   exact lk_keep h.2 hi hl
theorem keep_app2 {G : GP} (hk : Ar.GKeep G) {σ : Go.Vm.Sub} {ρ : Env} (h0 : keepsI σ = true) (h : GP.at G ρ) : GP.at G (σ.app ρ) := by
 simp only [keepsI, Bool.and_eq_true] at h0
 refine hk ρ _ (fun v => ?_) (fun i hi => ?_) rfl h
 · have : σ.V = [] := List.isEmpty_iff.1 h0.1
   simp only [Go.Vm.Sub.app, this]; rfl
 · simp only [Go.Vm.Sub.app]
   cases hl : lk σ.I i with
   | none => rfl
   | some t =>
    have := lk_keep h0.2 hi hl
    subst this
    rfl
noncomputable def gb0 : Code := ((loopsOf (Try.f21.body.getD .ret) []).getD 0 (.ret, [])).1
noncomputable def gk0 : List Item := ((loopsOf (Try.f21.body.getD .ret) []).getD 0 (.ret, [])).2
noncomputable def gb2 : Code := ((loopsOf (Try.f21.body.getD .ret) []).getD 2 (.ret, [])).1
noncomputable def gk2 : List Item := ((loopsOf (Try.f21.body.getD .ret) []).getD 2 (.ret, [])).2
def g9 : Gen := ⟨240, 9, 0, 8⟩
def eG : List Tpl := [⟨[(0, .bool (.var 5))], 1, [], 1, [], 0⟩]
noncomputable def sums_e : List LM := [.next 0 (.code (.loop gb0) :: gk0) [] ⟨[(200, (.lit 0)), (63, (.var 63)), (201, (.lit 0)), (67, (.var 67))], [], [], [], [(0, 0)]⟩]
abbrev qgr3xx0 : BT × Bool := ((.cmp .geq (.var 203) (.lit 0)), true)
abbrev qgr3xx1 : BT × Bool := ((.cmp .geq (.var 201) (.lit 0)), true)
abbrev qgr3xx2 : BT × Bool := ((.cmp .eql (.nv 1) (.var 61)), true)
abbrev qgr3xx3 : BT × Bool := ((.cmp .lss (.var 201) (.var 63)), true)
abbrev qgr3xx4 : BT × Bool := ((.cmp .eql (.nv 1) (.var 71)), true)
abbrev qgr3xx5 : BT × Bool := ((.cmp .lss (.var 203) (.var 73)), true)
abbrev qgr3xx6 : BT × Bool := ((.cmp .eql (.fn 79 (.var 201) (.lit 0)) (.lit 0)), true)
abbrev qgr3xx7 : BT × Bool := ((.cmp .eql (.fn 81 (.var 203) (.lit 0)) (.lit 0)), true)
noncomputable def sums_a : List LM := [.next 0 (.inLoop gb0 :: gk0) [qgr3xx6, qgr3xx2, qgr3xx3, qgr3xx1] ⟨[(200, (.bin .add .i64 (.var 200) (.lit 10))), (63, (.var 63)), (201, (.bin .add .i64 (.var 201) (.lit 1))), (67, (.var 67))], [], [], [], [(0, 0)]⟩,
 .next 0 (.inLoop gb0 :: gk0) [qgr3xx6, qgr3xx2, qgr3xx3, qgr3xx1] ⟨[(200, (.bin .add .i64 (.var 200) (.lit 10))), (63, (.var 63)), (201, (.bin .add .i64 (.var 201) (.lit 1))), (67, (.var 67))], [], [], [], [(0, 0)]⟩,
 .next 0 (.inLoop gb0 :: gk0) [((.cmp .geq (.fn 79 (.var 201) (.lit 0)) (.lit 1)), true), qgr3xx2, qgr3xx3, qgr3xx1] ⟨[(200, (.bin .add .i64 (.var 200) (.bin .add .i64 (.lit 10) (.fn 79 (.var 201) (.lit 0))))), (63, (.var 63)), (201, (.bin .add .i64 (.var 201) (.lit 1))), (67, (.var 67))], [], [], [], [(0, 0)]⟩,
 .next 1 (.code (.loop gb2) :: gk2) [((.cmp .lss (.var 201) (.var 63)), false), qgr3xx1] ⟨[(200, (.bin .add .i64 (.var 200) (.bin .add .i64 (.bin .add .i64 (.lit 10) (.var 76)) (.var 78)))), (73, (.var 73)), (203, (.lit 0)), (67, (.var 67))], [], [], [], [(0, 0)]⟩]
noncomputable def sums_b : List LM := [.next 1 (.inLoop gb2 :: gk2) [qgr3xx7, qgr3xx4, qgr3xx5, qgr3xx0] ⟨[(200, (.bin .add .i64 (.var 200) (.lit 10))), (73, (.var 73)), (203, (.bin .add .i64 (.var 203) (.lit 1))), (67, (.var 67))], [], [], [], [(0, 0)]⟩,
 .next 1 (.inLoop gb2 :: gk2) [qgr3xx7, qgr3xx4, qgr3xx5, qgr3xx0] ⟨[(200, (.bin .add .i64 (.var 200) (.lit 10))), (73, (.var 73)), (203, (.bin .add .i64 (.var 203) (.lit 1))), (67, (.var 67))], [], [], [], [(0, 0)]⟩,
 .next 1 (.inLoop gb2 :: gk2) [((.cmp .geq (.fn 81 (.var 203) (.lit 0)) (.lit 1)), true), qgr3xx4, qgr3xx5, qgr3xx0] ⟨[(200, (.bin .add .i64 (.var 200) (.bin .add .i64 (.lit 10) (.fn 81 (.var 203) (.lit 0))))), (73, (.var 73)), (203, (.bin .add .i64 (.var 203) (.lit 1))), (67, (.var 67))], [], [], [], [(0, 0)]⟩,
 .done 0 [((.cmp .gtr (.var 200) (.lit 2000)), true), ((.cmp .lss (.var 203) (.var 73)), false), qgr3xx0] ⟨[], [(5, (.lit true))], [], [], []⟩,
 .done 0 [((.cmp .gtr (.var 200) (.lit 2000)), false), ((.cmp .lss (.var 203) (.var 73)), false), qgr3xx0] ⟨[], [(5, (.lit false))], [], [], []⟩]
theorem run_e : (run Try.prog [] spG 4000 plG 21 (entry Try.f21 (Try.f21.body.getD .ret) aG (ofP hG0) 1 [])).map (·.filterMap (sumMO g9 [] eG [tA, tB])) = some sums_e := by kernel_rfl
theorem run_a : (run Try.prog [] spG 4000 plG 21 (tA.st (.code gb0 :: .inLoop gb0 :: gk0))).map (·.filterMap (sumMO g9 [] eG [tA, tB])) = some sums_a := by kernel_rfl
theorem run_b : (run Try.prog [] spG 4000 plG 21 (tB.st (.code gb2 :: .inLoop gb2 :: gk2))).map (·.filterMap (sumMO g9 [] eG [tA, tB])) = some sums_b := by kernel_rfl
end Gr
end Go.Proofs.Ytighjgmgpphohaa
end
section
namespace Go.Proofs.Ytighjgmgpphohaa
open Go.Vm Go.Vm.Le Go.Vm.Mb
namespace Gr
structure RowsW (sm : Bool) (w : World) where
 bo : Nat
 oo : Nat
 cap : Nat
 Ws : List Value
 zs : List Int
 el : Value -> Nat
 ad : Option Addr
 at0 : 1 <= Ws.length -> ad = some ⟨bo, oo, none⟩ /\ ∃ c fr e, w.heap[bo]? = some (.cells c e fr) /\ Ws <+: c.toList.drop oo
 row : ∀ i v, Ws[i]? = some v -> (v = .slice none 0 0 /\ el v = 0) ∨ ∃ b o n c, v = slX b o n c /\ el v = n /\ (sm = true -> n <= 1000000) /\ (1 <= n -> WordsIn w b o n (zs.getD i 0))
variable {sm : Bool} {w : World}
def RowsW.f (R : RowsW sm w) : Int -> Int -> Int := fun i _ => ((R.el (R.Ws.getD i.toNat (.slice none 0 0)) : Nat) : Int)
def RowsW.g (R : RowsW sm w) : Int -> Int -> Int := fun i _ => R.zs.getD i.toNat 0
def RowsW.pin (R : RowsW sm w) (v a k : Nat) : GP := fun I _ _ V F => V v = .slice R.ad R.Ws.length R.cap /\ I a = (R.bo : Int) /\ I (a + 1) = (R.oo : Int) /\ I (a + 2) = (R.Ws.length : Int) /\ F k = R.f /\ F (k + 1) = R.g
def RowsW.inR (R : RowsW sm w) {G : GP} {v a k : Nat} (h : ∀ I B S V F, G I B S V F -> R.pin v a k I B S V F) : InR ⟨w, noO, G⟩ sm v a k :=
 ⟨R.bo, R.oo, R.cap, R.Ws, R.zs, R.el, R.ad, fun h1 => ⟨(R.at0 h1).1, id, (R.at0 h1).2⟩, fun i v hv => (R.row i v hv).imp id fun ⟨b, o, n, c, h1, h2, h3, h4⟩ => ⟨b, o, n, c, h1, h2, h3, fun h5 => ⟨id, h4 h5⟩⟩, h⟩
def RowsW.sum (R : RowsW sm w) : Nat -> Nat
 | 0 => 0
 | i + 1 => R.sum i + (10 + R.el (R.Ws.getD i (.slice none 0 0)))
theorem RowsW.sum_le (R : RowsW sm w) : ∀ {i j : Nat}, i <= j -> R.sum i <= R.sum j := fun {i j} h => by
 induction j with
 | zero => have : i = 0 := by omega
           subst this; exact Nat.le_refl _
 | succ j ih =>
  by_cases e : i = j + 1
  · subst e; exact Nat.le_refl _
  · have := ih (by omega)
    simp only [RowsW.sum]; omega
structure LenV where
 ad : Option Addr
 n : Nat
 cap : Nat
def LenV.v (L : LenV) : Value := .slice L.ad L.n L.cap
def GG (R1 R2 : RowsW false w) (X Y : LenV) : GP := fun I B S V F => (R1.pin 60 61 79 I B S V F /\ R2.pin 70 71 81 I B S V F) /\ (V 64 = X.v /\ I 76 = (X.n : Int)) /\ V 66 = Y.v /\ I 78 = (Y.n : Int)
theorem GG_keep (R1 R2 : RowsW false w) (X Y : LenV) : Ar.GKeep (GG R1 R2 X Y) := fun ρ ρ' hV hI hF h => by
 obtain ⟨⟨⟨a1, a2, a3, a4, a5, a6⟩, b1, b2, b3, b4, b5, b6⟩, ⟨c1, c2⟩, d1, d2⟩ := h
 exact ⟨⟨⟨(hV _).trans a1, (hI _ (by decide)).trans a2, (hI _ (by decide)).trans a3, (hI _ (by decide)).trans a4, by rw [hF]; exact a5, by rw [hF]; exact a6⟩,
  (hV _).trans b1, (hI _ (by decide)).trans b2, (hI _ (by decide)).trans b3, (hI _ (by decide)).trans b4, by rw [hF]; exact b5, by rw [hF]; exact b6⟩, ⟨(hV _).trans c1, (hI _ (by decide)).trans c2⟩, (hV _).trans d1, (hI _ (by decide)).trans d2⟩
theorem und47 : Try.prog.underlying 47 = some (.slice 22) := by kernel_rfl
theorem und22 : Try.prog.underlying 22 = some (.slice 32) := by kernel_rfl
theorem und29 : Try.prog.underlying 29 = some (.slice 35) := by kernel_rfl
theorem inf22 : (Try.prog.info? 22).map (·.size) = some 1 := by kernel_rfl
theorem inf49 : (Try.prog.info? 49).map (·.size) = some 4 := by kernel_rfl
theorem spG_ok (R1 R2 : RowsW false w) (X Y : LenV) : CallOk Try.prog ⟨w, noO, GG R1 R2 X Y⟩ spG := by
 have h0 : ∀ I B S V F, (Base.mk w noO (GG R1 R2 X Y)).G I B S V F -> GG R1 R2 X Y I B S V F := fun _ _ _ _ _ h => h
 have i1 := R1.inR (G := GG R1 R2 X Y) (v := 60) (a := 61) (k := 79) fun I B S V F h => (h0 I B S V F h).1.1
 have i2 := R2.inR (G := GG R1 R2 X Y) (v := 70) (a := 71) (k := 81) fun I B S V F h => (h0 I B S V F h).1.2
 refine spLH_ok (fun p hp => by cases hp) (orH_ok (hkXLen_ok und22) (orH_ok (hkInLen_ok und47 fun I B S V F h => ⟨(h0 I B S V F h).1.1.1, (h0 I B S V F h).1.1.2.2.2.1⟩) (orH_ok (hkInLen_ok und47 fun I B S V F h => ⟨(h0 I B S V F h).1.2.1, (h0 I B S V F h).1.2.2.2.2.1⟩)
  (orH_ok (hkInLen_ok und29 fun I B S V F h => (h0 I B S V F h).2.1) (orH_ok (hkInLen_ok und22 fun I B S V F h => (h0 I B S V F h).2.2) (orH_ok (hkInA_ok und47 inf22 i1) (orH_ok (hkInA_ok und47 inf22 i2) (orH_ok (hkInL_ok und22 i1) (orH_ok (hkInL_ok und22 i2) (hkStN_ok inf49 fun I B S V F h i hi => ?_))))))))))
 have h1 := h0 I B S V F h
 simp only [List.mem_cons, List.not_mem_nil, or_false] at hi
 rcases hi with rfl | rfl | rfl
 · rw [h1.2.1.1]; rfl
 · rw [h1.2.2.1]; rfl
 · rw [h1.1.2.1]; rfl
end Gr
end Go.Proofs.Ytighjgmgpphohaa
end
