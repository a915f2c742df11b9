/-
  LinearTells (30): the reference's Wrong: its loops.
-/
import Derived.Test.YtpgonpjakllnjaaLt11
import Derived.Test.YtpgonpjakllnjaaLt20
namespace Go.Proofs.Ytpgonpjakllnjaa
open Go.Vm Go.Vm.Md Lm
namespace Lt

-- THE REPLAY, WHERE IT IS CALLED
def nF : IT := .fn 54 (.var 40) (.lit 0)
def mF (q : AVal) : AVal := rmA q (.fn 51 (.var 40) (.lit 0)) (.fn 52 (.var 40) (.lit 0))
def anB (c : Nat) : HB := ⟨.arr (.code [.i64, .i64] (.var 41)) [.i64, .i64] 27 (.var 42) (.lit 0) (some (.nv c)), true⟩
def quB (c : Nat) : HB := ⟨.arr (.code [.i64] (.fn 53 (.var 40) (.lit 0))) [.i64] 3 nF (.lit 0) (some (.nv c)), true⟩
def outF (a : AVal) (H : Heap) (nl : Nat) (cs : Cs) : Bool → List Leaf
  | true => [.ret (.tuple [a, mF .sliceNil]) H nl cs, .ret (.tuple [a, mF (.slice nl (.lit 0) (.lit 0) (.lit 0))]) H (nl + 1) cs]
  | false => [.ret (.tuple [a, mF (.slice (nl + 1) (.lit 0) nF (.nv nl))]) (H.set (nl + 1) (quB nl)) (nl + 2) cs]
/-- No answers; the queue's empty. -/
def spRS (k : Kd) (z e : Bool) : SpG := fun args H nl cs =>
  cond (Nat.ble nl 500 && (hasE (EE k .row) H && AVal.beqL args [SL k, SO .row]))
    (cond z (some (outF .sliceNil H nl cs e)) (some (outF (.slice (nl + 1) (.lit 0) (.var 42) (.nv nl)) (H.set (nl + 1) (anB nl)) (nl + 2) cs e))) none
-- THE LOOPS OF WRONG
noncomputable def RHp (pl : PL) (sp : CallF) (f : FuncId) (fn : Func) (j : Nat) (Ts : List Tpl) (T : Tpl) (c : Cs) (l : List LS) : Prop := (run Try.prog [] sp 4000 pl f ((⟨T.tm, T.nt, T.H, T.nl, c ++ T.cs, T.dep⟩ : Tpl).st (.code (lb fn j) :: .inLoop (lb fn j) :: lq fn j))).map (·.filterMap (sumD gM Ts)) = some l
noncomputable def RCp (pl : PL) (sp : CallF) (f : FuncId) (fn : Func) (Ts : List Tpl) (args : List AVal) (H : Heap) (cs : Cs) (l : List LS) : Prop := (run Try.prog [] sp 4000 pl f (entry fn (fn.body.getD .ret) args H 300 cs)).map (·.filterMap (sumD gM Ts)) = some l
section
variable {β : Base} {sp : CallF} {f : FuncId} {fn : Func} {j : Nat} {T : Tpl} {Ts : List Tpl}
theorem scanp {pl : PL} (hsp : CallOk Try.prog β sp) (hown : β.own = []) {Q : Value → Prop} (J : Env → Prop) (μ : Env → Nat)
    (hs : ∀ ρ, J ρ → GP.at β.G ρ → CRel ρ T.cs → (∃ w, HRel β ρ (ofP T.H) T.nl w) → (∀ ρ', μ ρ' < μ ρ → J ρ' → ∀ todo a w, todo = .inLoop (lb fn j) :: lq fn j ∨ todo = .code (.loop (lb fn j)) :: lq fn j → SRel β ρ' (T.st todo) a w → Goes Try.prog f (fun v w' => Q v ∧ Framed β.w0 w') todo a w) → ∃ c sums, CRel ρ c ∧ RHp pl sp f fn j Ts T c sums ∧ ∀ s ∈ sums, SumGood Try.prog β f Q Ts ρ s) :
    ∀ ρ, J ρ → ∀ todo a w, todo = .inLoop (lb fn j) :: lq fn j ∨ todo = .code (.loop (lb fn j)) :: lq fn j → SRel β ρ (T.st todo) a w → Goes Try.prog f (fun v w' => Q v ∧ Framed β.w0 w') todo a w :=
  loop_goesD (P := Try.prog) (Q := Q) (Ts := Ts) (n := 4000) (g := gM) (pl := pl) noCount noExt hsp follows hown J μ fun ρ hJ hH hcs hG ih => by
    obtain ⟨c, sums, h1, h2, h3⟩ := hs ρ hJ hG hcs hH ih
    exact ⟨c ++ T.cs, sums, CRel_app.2 ⟨h1, hcs⟩, h2, h3⟩
theorem callp {pl : PL} (hsp : CallOk Try.prog β sp) (hown : β.own = []) {Q : Value → Prop} {args : List AVal} {xs : List Value} {H : Heap} {cs : Cs} {ρ : Env} {w : World} {sums : List LS} (hf : Try.prog.funcs[f]? = some fn) (hb : fn.body = some (fn.body.getD .ret))
    (hrun : RCp pl sp f fn Ts args H cs sums) (hx : AVal.denL ρ args = some xs) (hr : HRel β ρ H 300 w) (hc : CRel ρ cs) (h : ∀ s ∈ sums, SumGood Try.prog β f Q Ts ρ s) :
    Calls Try.prog f xs.toArray w fun e w' => ∃ v, e = .returned v ∧ Q v ∧ Framed β.w0 w' :=
  calls_sumsD (g := gM) (Ts := Ts) (pl := pl) noCount noExt hsp follows hown hf hb hrun hx hr hc h
end
def TA (a b c : Nat) : Tpl := ⟨[(0, SL .row), (1, SO .row), (a, SO .row), (b, .int .i64 (.var 38)), (c, iV 9)], 152, roH (EE .row .row), 400, cs9 (.var 38) ++ csRR, 3⟩
def TB (z : Kd) : Tpl := ⟨[(0, SL .row), (1, SO z), (69, SL .row), (70, .int .i64 (.var 36)), (71, iV 9)], 152, roH (EE .row z), 400, cs9 (.var 36) ++ csE .row z, 3⟩
def Tin8 : Tpl := ⟨[(0, SL .row), (1, SO .row), (14, .int .i64 (oT (.var 10))), (95, SO .row), (96, .int .i64 (.var 38)), (97, iV 10), (104, S1 (.var 10)), (105, iV 10), (106, iV 9)], 152, roH (EE .row .row), 400, cs9 (.var 10) ++ [q9 .geq (.var 10) (.lit 0) true, q9 .lss (.var 10) (.var 38) true] ++ csRR, 7⟩
def TD : Tpl := ⟨[(0, SL .row), (1, SO .row), (17, .slice 13 (.lit 0) (.var 42) (.nv 12)), (127, SO .row), (128, .int .i64 (.var 38)), (129, iV 9)], 152, roH (EE .row .row) ++ [(13, anB 12)], 400, cs9 (.var 38) ++ csRR, 3⟩
def t8 : List Tpl := [TD, Tin8, TA 95 96 97, TB .row, TA 57 58 59, TA 44 45 46, TA 21 22 23]
def sp8 (e : Bool) : CallF := spL [(23, spHas), (15, spRS .row false e)]
def sA (t : IT) : Sub := ⟨[(9, t)], [], [], [], [(0, 0), (1, 1)]⟩
def s8i (t u : IT) : Sub := ⟨[(10, t), (9, u)], [], [], [], [(0, 0), (1, 1)]⟩
def sD (t : IT) (a b : Nat) : Sub := ⟨[(9, t)], [], [], [], [(0, 0), (1, 1), (13, a), (12, b)]⟩
noncomputable def x8 (q j : Nat) (σ : Sub) : LS := .next q (.inLoop (lb Try.f8 j) :: lq Try.f8 j) [] σ
noncomputable def y8 (q j : Nat) (σ : Sub) : LS := .next q (.code (.loop (lb Try.f8 j)) :: lq Try.f8 j) [] σ
noncomputable def R8 (e : Bool) (j : Nat) (T : Tpl) (c : Cs) (l : List LS) : Prop := RHp true (sp8 e) 8 Try.f8 j t8 T c l
def in8 : Cs := lt9 (.var 38) true
def en8 : Cs := lt9 (.var 38) false
theorem a_in (e : Bool) : RCp true (sp8 e) 8 Try.f8 t8 [SL .row, SO .row] (ofP (roH (EE .row .row))) csRR [y8 6 0 (sA (.lit 0))] := by unfold RCp; cases e <;> kernel_rfl
theorem a0y (e : Bool) : R8 e 0 (TA 21 22 23) (in8 ++ inL (oT at9) ++ [q9 .eql (rT (oT at9) 1) (.lit 2) true]) [x8 6 0 (sA up9)] := by unfold R8 RHp; cases e <;> kernel_rfl
theorem a0e (e : Bool) : R8 e 0 (TA 21 22 23) en8 [y8 5 1 (sA (.lit 0))] := by unfold R8 RHp; cases e <;> kernel_rfl
def beg8 : Cs := [q9 .leq at9 (.var 65) true, q9 .leq at9 (.var 38) true, q9 .leq (.lit 0) at9 true]
def hs8 (b : Bool) : Cs := [q9 .eql (.fn 49 at9 (oT at9)) (.lit 1) b]
theorem a1y (e : Bool) : R8 e 1 (TA 44 45 46) (in8 ++ beg8 ++ hs8 true) [.ret (.int .i64 (.lit 2)) []] := by unfold R8 RHp; cases e <;> kernel_rfl
theorem a1n (e : Bool) : R8 e 1 (TA 44 45 46) (in8 ++ beg8 ++ hs8 false) [x8 5 1 (sA up9)] := by unfold R8 RHp; cases e <;> kernel_rfl
theorem a1e (e : Bool) : R8 e 1 (TA 44 45 46) en8 [y8 4 2 (sA (.lit 0))] := by unfold R8 RHp; cases e <;> kernel_rfl
theorem a2A (e : Bool) : R8 e 2 (TA 57 58 59) (in8 ++ inL (oT at9) ++ fA (oT at9)) [.ret (.int .i64 (.lit 3)) []] := by unfold R8 RHp; cases e <;> kernel_rfl
theorem a2B (e : Bool) : R8 e 2 (TA 57 58 59) (in8 ++ inL (oT at9) ++ fB (oT at9)) [.ret (.int .i64 (.lit 3)) []] := by unfold R8 RHp; cases e <;> kernel_rfl
theorem a2C (e : Bool) : R8 e 2 (TA 57 58 59) (in8 ++ inL (oT at9) ++ fC (oT at9)) [x8 4 2 (sA up9)] := by unfold R8 RHp; cases e <;> kernel_rfl
theorem a2D (e : Bool) : R8 e 2 (TA 57 58 59) (in8 ++ inL (oT at9) ++ fD (oT at9)) [x8 4 2 (sA up9)] := by unfold R8 RHp; cases e <;> kernel_rfl
theorem a2e (e : Bool) : R8 e 2 (TA 57 58 59) en8 [y8 3 3 (sA (.lit 0))] := by unfold R8 RHp; cases e <;> kernel_rfl
def in3 : Cs := lt9 (.var 36) true
def iv3 (b : Bool) : Cs := [q9 .eql (rT at9 1) (.lit 2) b]
def hs3 (b : Bool) : Cs := [(.not (.cmp .eql (.fn 49 (.var 38) at9) (.lit 1)), b)]
theorem a3x (e : Bool) : R8 e 3 (TB .row) (in3 ++ iv3 false) [x8 3 3 (sA up9)] := by unfold R8 RHp; cases e <;> kernel_rfl
theorem a3A (e : Bool) : R8 e 3 (TB .row) (in3 ++ iv3 true ++ fA at9) [x8 3 3 (sA up9)] := by unfold R8 RHp; cases e <;> kernel_rfl
theorem a3B (e : Bool) : R8 e 3 (TB .row) (in3 ++ iv3 true ++ fB at9) [x8 3 3 (sA up9)] := by unfold R8 RHp; cases e <;> kernel_rfl
theorem a3D (e : Bool) : R8 e 3 (TB .row) (in3 ++ iv3 true ++ fD at9) [x8 3 3 (sA up9)] := by unfold R8 RHp; cases e <;> kernel_rfl
theorem a3y (e : Bool) : R8 e 3 (TB .row) (in3 ++ iv3 true ++ fC at9 ++ hs3 true) [.ret (.int .i64 (.lit 4)) []] := by unfold R8 RHp; cases e <;> kernel_rfl
theorem a3n (e : Bool) : R8 e 3 (TB .row) (in3 ++ iv3 true ++ fC at9 ++ hs3 false) [x8 3 3 (sA up9)] := by unfold R8 RHp; cases e <;> kernel_rfl
theorem a3e (e : Bool) : R8 e 3 (TB .row) (lt9 (.var 36) false) [y8 2 4 (sA (.lit 0))] := by unfold R8 RHp; cases e <;> kernel_rfl
theorem a4y (e : Bool) : R8 e 4 (TA 95 96 97) (in8 ++ beg8) [y8 1 5 (s8i at9 (.lit 0))] := by unfold R8 RHp; cases e <;> kernel_rfl
def in5 : Cs := lt9 (.var 10) true ++ [q9 .lss at9 (.var 38) true] ++ inL (oT at9) ++ inL (oT (.var 10))
theorem a4e (e : Bool) : R8 e 4 (TA 95 96 97) en8 (cond e [y8 0 6 (sD (.lit 0) 401 400), y8 0 6 (sD (.lit 0) 401 400)] [y8 0 6 (sD (.lit 0) 401 400)]) := by unfold R8 RHp; cases e <;> kernel_rfl
theorem a5y (e : Bool) : R8 e 5 Tin8 (in5 ++ gA (oT (.var 10)) (oT at9)) [.ret (.int .i64 (.lit 5)) []] := by unfold R8 RHp; cases e <;> kernel_rfl
theorem a5n (e : Bool) : R8 e 5 Tin8 (in5 ++ gB (oT (.var 10)) (oT at9)) [x8 1 5 (s8i (.var 10) up9)] := by unfold R8 RHp; cases e <;> kernel_rfl
theorem a5d (e : Bool) : R8 e 5 Tin8 (in5 ++ fD (oT (.var 10))) [x8 1 5 (s8i (.var 10) up9)] := by unfold R8 RHp; cases e <;> kernel_rfl
theorem a5e (e : Bool) : R8 e 5 Tin8 (lt9 (.var 10) false) [x8 2 4 (sA (.bin .add .i64 (.var 10) (.lit 1)))] := by unfold R8 RHp; cases e <;> kernel_rfl
theorem a6D (e : Bool) : R8 e 6 TD (goW ++ fD (oT at9)) [x8 0 6 (sD up9 13 12)] := by unfold R8 RHp; cases e <;> kernel_rfl
theorem a6y (e : Bool) : R8 e 6 TD (goW ++ fU true) [.ret (.int .i64 (.lit 6)) []] := by unfold R8 RHp; cases e <;> kernel_rfl
theorem a6n (e : Bool) : R8 e 6 TD (goW ++ fU false) [x8 0 6 (sD up9 13 12)] := by unfold R8 RHp; cases e <;> kernel_rfl
theorem a6e (e : Bool) : R8 e 6 TD en8 [.ret (.int .i64 (.lit 0)) []] := by unfold R8 RHp; cases e <;> kernel_rfl
-- NO ORDER; NO HISTORY
noncomputable def R8n (z : Kd) (c : Cs) (l : List LS) : Prop := RHp (PL.only [20]) (spL []) 8 Try.f8 3 [TB z] (TB z) c l
def s0B : Kd → Sub
  | .nil => ⟨[(9, .lit 0)], [], [], [], [(0, 0)]⟩
  | _ => sA (.lit 0)
theorem b_in (z : Kd) (h : z ≠ .row) : RCp (PL.only [20]) (spL []) 8 Try.f8 [TB z] [SL .row, SO z] (ofP (roH (EE .row z))) (csE .row z) [y8 0 3 (s0B z)] := by unfold RCp; cases z <;> first | exact absurd rfl h | kernel_rfl
def sB : Kd → Sub
  | .nil => ⟨[(9, up9)], [], [], [], [(0, 0)]⟩
  | _ => sA up9
theorem b3x (z : Kd) (h : z ≠ .row) : R8n z (in3 ++ iv3 false) [x8 0 3 (sB z)] := by unfold R8n RHp; cases z <;> first | exact absurd rfl h | kernel_rfl
theorem b3A (z : Kd) (h : z ≠ .row) : R8n z (in3 ++ iv3 true ++ fA at9) [x8 0 3 (sB z)] := by unfold R8n RHp; cases z <;> first | exact absurd rfl h | kernel_rfl
theorem b3B (z : Kd) (h : z ≠ .row) : R8n z (in3 ++ iv3 true ++ fB at9) [x8 0 3 (sB z)] := by unfold R8n RHp; cases z <;> first | exact absurd rfl h | kernel_rfl
theorem b3D (z : Kd) (h : z ≠ .row) : R8n z (in3 ++ iv3 true ++ fD at9) [x8 0 3 (sB z)] := by unfold R8n RHp; cases z <;> first | exact absurd rfl h | kernel_rfl
theorem b3y (z : Kd) (h : z ≠ .row) : R8n z (in3 ++ iv3 true ++ fC at9) [.ret (.int .i64 (.lit 4)) []] := by unfold R8n RHp; cases z <;> first | exact absurd rfl h | kernel_rfl
theorem b3e (z : Kd) (h : z ≠ .row) : R8n z (lt9 (.var 36) false) [.ret (.int .i64 (.lit 0)) []] := by unfold R8n RHp; cases z <;> first | exact absurd rfl h | kernel_rfl
theorem e_n (k z : Kd) (h : k ≠ .row) (h' : z ≠ .row) : RCp (PL.only []) (spL []) 8 Try.f8 [] [SL k, SO z] (ofP (roH (EE k z))) (csE k z) [.ret (.int .i64 (.lit 0)) []] := by unfold RCp; cases k <;> cases z <;> first | exact absurd rfl h | exact absurd rfl h' | kernel_rfl
def fst8 (b : Bool) : Cs := [q9 .lss (.lit 0) (.var 38) true, q9 .lss (oT (.lit 0)) (.lit 0) b]
theorem e_b (k : Kd) (h : k ≠ .row) : RCp (PL.only []) (spL []) 8 Try.f8 [] [SL k, SO .row] (ofP (roH (EE k .row))) (csE k .row ++ fst8 true) [.ret (.int .i64 (.lit 1)) []] := by unfold RCp; cases k <;> first | exact absurd rfl h | kernel_rfl
theorem e_c (k : Kd) (h : k ≠ .row) : RCp (PL.only []) (spL []) 8 Try.f8 [] [SL k, SO .row] (ofP (roH (EE k .row))) (csE k .row ++ fst8 false ++ [q9 .geq (oT (.lit 0)) (.lit 0) true]) [.ret (.int .i64 (.lit 1)) []] := by unfold RCp; cases k <;> first | exact absurd rfl h | kernel_rfl
end Lt
end Go.Proofs.Ytpgonpjakllnjaa
