/-
  Trace lines (7): the law, ahead of which 'first' has answered true.
-/
import Derived.Test.YtjjijagclgambaaGreatDoorTl6
namespace Go.Proofs.YtjjijagclgambaaGreatDoor
open Go.Vm Go.TraceP
namespace Txt

-- HEADS
def kA : Nat → AVal
  | 0 => .sliceNil
  | 1 => SLz
  | _ => SLl
def kE : Nat → List (Nat × HB)
  | 2 => [bB]
  | _ => []
def batL (k : Nat) : AVal := .agg [.int .u64 (.var 35), kA k]
def rowOk (k : Nat) (H : Heap) : Bool := cond (Nat.beq k 2) (match rowArg H SLl 0 ks8 with
  | some n => IT.beq n (.var 36)
  | none => false) true
def spLn (k : Nat) : SpG := fun args H nl cs => cond (AVal.beqL args [batL k] && rowOk k H) (some [.ret (.str (.var 32)) H nl cs]) none
def spKd : SpG := fun args H nl cs => cond (AVal.beqL args [.str (.var 31)]) (some [.ret kdV H nl cs]) none
def sp3 (k : Nat) : CallF := spL [(4, spTrue), (5, spLn k), (6, spLn k), (7, spKd)]
def lenS : IT := .slen (.var 31)
def csF : Cs := [q9 .geq at9 (.lit 0) true, q9 .leq at9 lenS true, q9 .leq lenS (.lit 500) true]
def kI (j : Nat) : AVal := .int .i64 (.var j)
def TF (k : Nat) : Tpl := ⟨[(1, .str (.var 31)), (2, .ptr 14 (.lit 0)), (5, .ptr 13 (.lit 0)), (6, .int .i64 (.var 9))], 70, kE k ++ [(14, ⟨.cells [.int .u64 (.var 35), kA k] 25 none, true⟩), (13, ⟨.cells [kI 20, kI 21, kI 22, kI 23, kI 24, kI 25, kI 26] 27 none, true⟩)], 480, csF, 3⟩
def bT : IT := .un 0 (.scode (.var 31)) (.var 9)
def ltF (b : Bool) : Cs := [q9 .lss at9 lenS b]
def eqF (j : Nat) (b : Bool) : BT × Bool := (.cmp .eql bT (.lit (lets.getD j 0).toNat), b)
def way (j : Nat) : Cs := (List.range 7).map fun i => eqF i (Nat.beq i j)
def upK (j i : Nat) : Nat × IT := (20 + i, cond (Nat.beq i j) (.bin .add .i64 (.var (20 + i)) (.lit 1)) (.var (20 + i)))
def sF (k j : Nat) : Sub := ⟨(9, up9) :: (List.range 7).map (upK j), [], [], [], [(14, 14), (13, 13)] ++ cond (Nat.beq k 0) [] [(0, 0)]⟩
def s0F (k : Nat) : Sub := ⟨(9, .lit 0) :: (List.range 7).map fun i => (20 + i, .lit 0), [], [], [], [(14, 480), (13, 481)] ++ cond (Nat.beq k 0) [] [(0, 0)]⟩
def endF : Cs := [(.cmp .eql (.var 40) (.var 20), true), (.cmp .eql (.var 41) (.var 21), true), (.cmp .eql (.var 42) (.var 22), true), (.cmp .eql (.var 43) (.var 23), true), (.cmp .eql (.bin .add .i64 (.var 44) (.var 45)) (.bin .add .i64 (.var 24) (.var 25)), true), (.cmp .eql (.var 46) (.var 26), true)]
noncomputable def RHp (sp : CallF) (f : FuncId) (fn : Func) (j : Nat) (Ts : List Tpl) (T : Tpl) (c : Cs) (l : List LS) : Prop := (run Tryz.prog [] sp 4000 (PL.only [7]) f ((⟨T.tm, T.nt, T.H, T.nl, c ++ T.cs, T.dep⟩ : Tpl).st (.code (lb fn j) :: .inLoop (lb fn j) :: lq fn j))).map (·.filterMap (sumD gT Ts)) = some l
noncomputable def RCp (sp : CallF) (f : FuncId) (fn : Func) (Ts : List Tpl) (args : List AVal) (H : Heap) (cs : Cs) (l : List LS) : Prop := (run Tryz.prog [] sp 4000 (PL.only [7]) f (entry fn (fn.body.getD .ret) args H 480 cs)).map (·.filterMap (sumD gT Ts)) = some l
section
variable {β : Base} {sp : CallF} {f : FuncId} {fn : Func} {j : Nat} {Ts : List Tpl} {ι : Type} {T : ι → Tpl}
theorem scanP (hsp : CallOk Tryz.prog β sp) (hown : β.own = []) {Q : Value → Prop} (J : ι → Env → Prop) (μ : ι → Env → Nat)
    (hs : ∀ z ρ, J z ρ → GP.at β.G ρ → CRel ρ (T z).cs → (∀ z' ρ', μ z' ρ' < μ z ρ → J z' ρ' → ∀ todo a w, todo = .inLoop (lb fn j) :: lq fn j ∨ todo = .code (.loop (lb fn j)) :: lq fn j → SRel β ρ' ((T z').st todo) a w → Goes Tryz.prog f (fun v w' => Q v ∧ Framed β.w0 w') todo a w) → ∃ c sums, CRel ρ c ∧ RHp sp f fn j Ts (T z) c sums ∧ ∀ s ∈ sums, SumGood Tryz.prog β f Q Ts ρ s) :
    ∀ z ρ, J z ρ → ∀ todo a w, todo = .inLoop (lb fn j) :: lq fn j ∨ todo = .code (.loop (lb fn j)) :: lq fn j → SRel β ρ ((T z).st todo) a w → Goes Tryz.prog f (fun v w' => Q v ∧ Framed β.w0 w') todo a w :=
  loop_goesK (P := Tryz.prog) (Q := Q) (n := 4000) (g := gT) noCount noExt hsp follows hown T J μ fun z ρ hJ hcs hG ih => by
    obtain ⟨c, sums, h1, h2, h3⟩ := hs z ρ hJ hG hcs ih
    exact ⟨PL.only [7], Ts, c ++ (T z).cs, sums, CRel_app.2 ⟨h1, hcs⟩, h2, h3⟩
theorem callP (hsp : CallOk Tryz.prog β sp) (hown : β.own = []) {Q : Value → Prop} {args : List AVal} {xs : List Value} {H : Heap} {cs : Cs} {ρ : Env} {w : World} {sums : List LS} (hf : Tryz.prog.funcs[f]? = some fn) (hb : fn.body = some (fn.body.getD .ret))
    (hrun : RCp sp f fn Ts args H cs sums) (hx : AVal.denL ρ args = some xs) (hr : HRel β ρ H 480 w) (hc : CRel ρ cs) (h : ∀ s ∈ sums, SumGood Tryz.prog β f Q Ts ρ s) :
    Calls Tryz.prog f xs.toArray w fun e w' => ∃ v, e = .returned v ∧ Q v ∧ Framed β.w0 w' :=
  calls_sumsD (g := gT) (Ts := Ts) (pl := PL.only [7]) noCount noExt hsp follows hown hf hb hrun hx hr hc h
end
-- RUNS
def csE3 (k : Nat) : Cs := cond (Nat.beq k 2) csB []
theorem en3k0 : RCp (sp3 0) 3 Tryz.f3 [TF 0] [batL 0, .str (.var 31)] (ofP (kE 0)) (csE3 0 ++ [q9 .leq lenS (.lit 500) true]) [.next 0 (.code (.loop (lb Tryz.f3 0)) :: lq Tryz.f3 0) [] (s0F 0)] := by unfold RCp; kernel_rfl
theorem en3k1 : RCp (sp3 1) 3 Tryz.f3 [TF 1] [batL 1, .str (.var 31)] (ofP (kE 1)) (csE3 1 ++ [q9 .leq lenS (.lit 500) true]) [.next 0 (.code (.loop (lb Tryz.f3 0)) :: lq Tryz.f3 0) [] (s0F 1)] := by unfold RCp; kernel_rfl
theorem en3k2 : RCp (sp3 2) 3 Tryz.f3 [TF 2] [batL 2, .str (.var 31)] (ofP (kE 2)) (csE3 2 ++ [q9 .leq lenS (.lit 500) true]) [.next 0 (.code (.loop (lb Tryz.f3 0)) :: lq Tryz.f3 0) [] (s0F 2)] := by unfold RCp; kernel_rfl
theorem en3 (k : Nat) (hk : k < 3) : RCp (sp3 k) 3 Tryz.f3 [TF k] [batL k, .str (.var 31)] (ofP (kE k)) (csE3 k ++ [q9 .leq lenS (.lit 500) true]) [.next 0 (.code (.loop (lb Tryz.f3 0)) :: lq Tryz.f3 0) [] (s0F k)] := by
  match k, hk with
  | 0, _ => exact en3k0
  | 1, _ => exact en3k1
  | 2, _ => exact en3k2
theorem w3_0k0 : RHp (sp3 0) 3 Tryz.f3 0 [TF 0] (TF 0) (ltF true ++ way 0) [.next 0 (.inLoop (lb Tryz.f3 0) :: lq Tryz.f3 0) [] (sF 0 0)] := by unfold RHp; kernel_rfl
theorem w3_0k1 : RHp (sp3 1) 3 Tryz.f3 0 [TF 1] (TF 1) (ltF true ++ way 0) [.next 0 (.inLoop (lb Tryz.f3 0) :: lq Tryz.f3 0) [] (sF 1 0)] := by unfold RHp; kernel_rfl
theorem w3_0k2 : RHp (sp3 2) 3 Tryz.f3 0 [TF 2] (TF 2) (ltF true ++ way 0) [.next 0 (.inLoop (lb Tryz.f3 0) :: lq Tryz.f3 0) [] (sF 2 0)] := by unfold RHp; kernel_rfl
theorem w3_0 (k : Nat) (hk : k < 3) : RHp (sp3 k) 3 Tryz.f3 0 [TF k] (TF k) (ltF true ++ way 0) [.next 0 (.inLoop (lb Tryz.f3 0) :: lq Tryz.f3 0) [] (sF k 0)] := by
  match k, hk with
  | 0, _ => exact w3_0k0
  | 1, _ => exact w3_0k1
  | 2, _ => exact w3_0k2
theorem w3_1k0 : RHp (sp3 0) 3 Tryz.f3 0 [TF 0] (TF 0) (ltF true ++ way 1) [.next 0 (.inLoop (lb Tryz.f3 0) :: lq Tryz.f3 0) [] (sF 0 1)] := by unfold RHp; kernel_rfl
theorem w3_1k1 : RHp (sp3 1) 3 Tryz.f3 0 [TF 1] (TF 1) (ltF true ++ way 1) [.next 0 (.inLoop (lb Tryz.f3 0) :: lq Tryz.f3 0) [] (sF 1 1)] := by unfold RHp; kernel_rfl
theorem w3_1k2 : RHp (sp3 2) 3 Tryz.f3 0 [TF 2] (TF 2) (ltF true ++ way 1) [.next 0 (.inLoop (lb Tryz.f3 0) :: lq Tryz.f3 0) [] (sF 2 1)] := by unfold RHp; kernel_rfl
theorem w3_1 (k : Nat) (hk : k < 3) : RHp (sp3 k) 3 Tryz.f3 0 [TF k] (TF k) (ltF true ++ way 1) [.next 0 (.inLoop (lb Tryz.f3 0) :: lq Tryz.f3 0) [] (sF k 1)] := by
  match k, hk with
  | 0, _ => exact w3_1k0
  | 1, _ => exact w3_1k1
  | 2, _ => exact w3_1k2
theorem w3_2k0 : RHp (sp3 0) 3 Tryz.f3 0 [TF 0] (TF 0) (ltF true ++ way 2) [.next 0 (.inLoop (lb Tryz.f3 0) :: lq Tryz.f3 0) [] (sF 0 2)] := by unfold RHp; kernel_rfl
theorem w3_2k1 : RHp (sp3 1) 3 Tryz.f3 0 [TF 1] (TF 1) (ltF true ++ way 2) [.next 0 (.inLoop (lb Tryz.f3 0) :: lq Tryz.f3 0) [] (sF 1 2)] := by unfold RHp; kernel_rfl
theorem w3_2k2 : RHp (sp3 2) 3 Tryz.f3 0 [TF 2] (TF 2) (ltF true ++ way 2) [.next 0 (.inLoop (lb Tryz.f3 0) :: lq Tryz.f3 0) [] (sF 2 2)] := by unfold RHp; kernel_rfl
theorem w3_2 (k : Nat) (hk : k < 3) : RHp (sp3 k) 3 Tryz.f3 0 [TF k] (TF k) (ltF true ++ way 2) [.next 0 (.inLoop (lb Tryz.f3 0) :: lq Tryz.f3 0) [] (sF k 2)] := by
  match k, hk with
  | 0, _ => exact w3_2k0
  | 1, _ => exact w3_2k1
  | 2, _ => exact w3_2k2
theorem w3_3k0 : RHp (sp3 0) 3 Tryz.f3 0 [TF 0] (TF 0) (ltF true ++ way 3) [.next 0 (.inLoop (lb Tryz.f3 0) :: lq Tryz.f3 0) [] (sF 0 3)] := by unfold RHp; kernel_rfl
theorem w3_3k1 : RHp (sp3 1) 3 Tryz.f3 0 [TF 1] (TF 1) (ltF true ++ way 3) [.next 0 (.inLoop (lb Tryz.f3 0) :: lq Tryz.f3 0) [] (sF 1 3)] := by unfold RHp; kernel_rfl
theorem w3_3k2 : RHp (sp3 2) 3 Tryz.f3 0 [TF 2] (TF 2) (ltF true ++ way 3) [.next 0 (.inLoop (lb Tryz.f3 0) :: lq Tryz.f3 0) [] (sF 2 3)] := by unfold RHp; kernel_rfl
theorem w3_3 (k : Nat) (hk : k < 3) : RHp (sp3 k) 3 Tryz.f3 0 [TF k] (TF k) (ltF true ++ way 3) [.next 0 (.inLoop (lb Tryz.f3 0) :: lq Tryz.f3 0) [] (sF k 3)] := by
  match k, hk with
  | 0, _ => exact w3_3k0
  | 1, _ => exact w3_3k1
  | 2, _ => exact w3_3k2
theorem w3_4k0 : RHp (sp3 0) 3 Tryz.f3 0 [TF 0] (TF 0) (ltF true ++ way 4) [.next 0 (.inLoop (lb Tryz.f3 0) :: lq Tryz.f3 0) [] (sF 0 4)] := by unfold RHp; kernel_rfl
theorem w3_4k1 : RHp (sp3 1) 3 Tryz.f3 0 [TF 1] (TF 1) (ltF true ++ way 4) [.next 0 (.inLoop (lb Tryz.f3 0) :: lq Tryz.f3 0) [] (sF 1 4)] := by unfold RHp; kernel_rfl
theorem w3_4k2 : RHp (sp3 2) 3 Tryz.f3 0 [TF 2] (TF 2) (ltF true ++ way 4) [.next 0 (.inLoop (lb Tryz.f3 0) :: lq Tryz.f3 0) [] (sF 2 4)] := by unfold RHp; kernel_rfl
theorem w3_4 (k : Nat) (hk : k < 3) : RHp (sp3 k) 3 Tryz.f3 0 [TF k] (TF k) (ltF true ++ way 4) [.next 0 (.inLoop (lb Tryz.f3 0) :: lq Tryz.f3 0) [] (sF k 4)] := by
  match k, hk with
  | 0, _ => exact w3_4k0
  | 1, _ => exact w3_4k1
  | 2, _ => exact w3_4k2
theorem w3_5k0 : RHp (sp3 0) 3 Tryz.f3 0 [TF 0] (TF 0) (ltF true ++ way 5) [.next 0 (.inLoop (lb Tryz.f3 0) :: lq Tryz.f3 0) [] (sF 0 5)] := by unfold RHp; kernel_rfl
theorem w3_5k1 : RHp (sp3 1) 3 Tryz.f3 0 [TF 1] (TF 1) (ltF true ++ way 5) [.next 0 (.inLoop (lb Tryz.f3 0) :: lq Tryz.f3 0) [] (sF 1 5)] := by unfold RHp; kernel_rfl
theorem w3_5k2 : RHp (sp3 2) 3 Tryz.f3 0 [TF 2] (TF 2) (ltF true ++ way 5) [.next 0 (.inLoop (lb Tryz.f3 0) :: lq Tryz.f3 0) [] (sF 2 5)] := by unfold RHp; kernel_rfl
theorem w3_5 (k : Nat) (hk : k < 3) : RHp (sp3 k) 3 Tryz.f3 0 [TF k] (TF k) (ltF true ++ way 5) [.next 0 (.inLoop (lb Tryz.f3 0) :: lq Tryz.f3 0) [] (sF k 5)] := by
  match k, hk with
  | 0, _ => exact w3_5k0
  | 1, _ => exact w3_5k1
  | 2, _ => exact w3_5k2
theorem w3_6k0 : RHp (sp3 0) 3 Tryz.f3 0 [TF 0] (TF 0) (ltF true ++ way 6) [.next 0 (.inLoop (lb Tryz.f3 0) :: lq Tryz.f3 0) [] (sF 0 6)] := by unfold RHp; kernel_rfl
theorem w3_6k1 : RHp (sp3 1) 3 Tryz.f3 0 [TF 1] (TF 1) (ltF true ++ way 6) [.next 0 (.inLoop (lb Tryz.f3 0) :: lq Tryz.f3 0) [] (sF 1 6)] := by unfold RHp; kernel_rfl
theorem w3_6k2 : RHp (sp3 2) 3 Tryz.f3 0 [TF 2] (TF 2) (ltF true ++ way 6) [.next 0 (.inLoop (lb Tryz.f3 0) :: lq Tryz.f3 0) [] (sF 2 6)] := by unfold RHp; kernel_rfl
theorem w3_6 (k : Nat) (hk : k < 3) : RHp (sp3 k) 3 Tryz.f3 0 [TF k] (TF k) (ltF true ++ way 6) [.next 0 (.inLoop (lb Tryz.f3 0) :: lq Tryz.f3 0) [] (sF k 6)] := by
  match k, hk with
  | 0, _ => exact w3_6k0
  | 1, _ => exact w3_6k1
  | 2, _ => exact w3_6k2
theorem w3_7k0 : RHp (sp3 0) 3 Tryz.f3 0 [TF 0] (TF 0) (ltF true ++ way 7) [.next 0 (.inLoop (lb Tryz.f3 0) :: lq Tryz.f3 0) [] (sF 0 7)] := by unfold RHp; kernel_rfl
theorem w3_7k1 : RHp (sp3 1) 3 Tryz.f3 0 [TF 1] (TF 1) (ltF true ++ way 7) [.next 0 (.inLoop (lb Tryz.f3 0) :: lq Tryz.f3 0) [] (sF 1 7)] := by unfold RHp; kernel_rfl
theorem w3_7k2 : RHp (sp3 2) 3 Tryz.f3 0 [TF 2] (TF 2) (ltF true ++ way 7) [.next 0 (.inLoop (lb Tryz.f3 0) :: lq Tryz.f3 0) [] (sF 2 7)] := by unfold RHp; kernel_rfl
theorem w3_7 (k : Nat) (hk : k < 3) : RHp (sp3 k) 3 Tryz.f3 0 [TF k] (TF k) (ltF true ++ way 7) [.next 0 (.inLoop (lb Tryz.f3 0) :: lq Tryz.f3 0) [] (sF k 7)] := by
  match k, hk with
  | 0, _ => exact w3_7k0
  | 1, _ => exact w3_7k1
  | 2, _ => exact w3_7k2
theorem end3k0 : RHp (sp3 0) 3 Tryz.f3 0 [TF 0] (TF 0) (ltF false ++ endF) [.ret (.bool (.lit true)) []] := by unfold RHp; kernel_rfl
theorem end3k1 : RHp (sp3 1) 3 Tryz.f3 0 [TF 1] (TF 1) (ltF false ++ endF) [.ret (.bool (.lit true)) []] := by unfold RHp; kernel_rfl
theorem end3k2 : RHp (sp3 2) 3 Tryz.f3 0 [TF 2] (TF 2) (ltF false ++ endF) [.ret (.bool (.lit true)) []] := by unfold RHp; kernel_rfl
theorem end3 (k : Nat) (hk : k < 3) : RHp (sp3 k) 3 Tryz.f3 0 [TF k] (TF k) (ltF false ++ endF) [.ret (.bool (.lit true)) []] := by
  match k, hk with
  | 0, _ => exact end3k0
  | 1, _ => exact end3k1
  | 2, _ => exact end3k2
end Txt
end Go.Proofs.YtjjijagclgambaaGreatDoor
