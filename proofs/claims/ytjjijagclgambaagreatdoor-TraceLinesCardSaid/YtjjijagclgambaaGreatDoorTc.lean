/-
  Trace lines (Tc): loops with texts, as rt has them.
-/
import Derived.Test.YtjjijagclgambaaGreatDoorTw2
import Derived.Test.YtjjijagclgambaaGreatDoorVm28
namespace Go.Proofs.YtjjijagclgambaaGreatDoor
open Go.Vm
namespace Txt

section
variable {P : Program} {β : Base} {f : FuncId} {Q : Value → Prop}
theorem loop_goesK (hc : NoCount P) {E : Exts} (hE : ExtOk P E) {sp : CallF} (hsp : CallOk P β sp) (hm : P.follows .mixedOrders = true) (hown : β.own = []) {g : Gen} {b : Code} {k : List Item} {n : Nat} {ι : Type} (T : ι → Tpl) (J : ι → Env → Prop) (μ : ι → Env → Nat)
    (hs : ∀ i ρ, J i ρ → CRel ρ (T i).cs → GP.at β.G ρ → (∀ i' ρ', μ i' ρ' < μ i ρ → J i' ρ' → ∀ todo a w, todo = .inLoop b :: k ∨ todo = .code (.loop b) :: k → SRel β ρ' ((T i').st todo) a w → Goes P f (fun v w' => Q v ∧ Framed β.w0 w') todo a w) →
      ∃ pl Ts cs' sums, CRel ρ cs' ∧ (run P E sp n pl f ((⟨(T i).tm, (T i).nt, (T i).H, (T i).nl, cs', (T i).dep⟩ : Tpl).st (.code b :: .inLoop b :: k))).map (·.filterMap (sumD g Ts)) = some sums ∧ ∀ s ∈ sums, SumGood P β f Q Ts ρ s) :
    ∀ i ρ, J i ρ → ∀ todo a w, todo = .inLoop b :: k ∨ todo = .code (.loop b) :: k → SRel β ρ ((T i).st todo) a w → Goes P f (fun v w' => Q v ∧ Framed β.w0 w') todo a w := by
  suffices H : ∀ N i ρ, μ i ρ = N → J i ρ → ∀ todo a w, todo = .inLoop b :: k ∨ todo = .code (.loop b) :: k → SRel β ρ ((T i).st todo) a w → Goes P f (fun v w' => Q v ∧ Framed β.w0 w') todo a w from fun i ρ => H _ i ρ rfl
  intro N
  induction N using Nat.strongRecOn with
  | _ N ih =>
    intro i ρ hN hJ todo a w htd r
    obtain ⟨pl, Ts, cs', sums, hcs', hrun, hss⟩ := hs i ρ hJ r.c r.h.g fun i' ρ' hlt hJ' todo' a' w' ht' r' => ih (μ i' ρ') (by omega) i' ρ' rfl hJ' todo' a' w' ht' r'
    obtain ⟨ls, hls, hsum⟩ := Option.map_eq_some_iff.1 hrun
    have key : Goes P f (fun v w' => Q v ∧ Framed β.w0 w') (.code b :: .inLoop b :: k) a w := run_sound hc hE hsp hm n pl f _ ls ρ a w _ hls ⟨r.d, r.n, r.t, r.h, hcs'⟩ (sums_all hown (g := g) (Ts := Ts) (sums := ls.filterMap (sumL g Ts)) rfl (dcs hsum hss))
    rcases htd with rfl | rfl
    · exact Goes.one (fun cs => step_inLoop) key
    · exact Goes.one (fun cs => step_loop) key
end
noncomputable def lb (fn : Func) (j : Nat) : Code := ((loopsOf (fn.body.getD .ret) []).getD j (.ret, [])).1
noncomputable def lq (fn : Func) (j : Nat) : List Item := ((loopsOf (fn.body.getD .ret) []).getD j (.ret, [])).2
def gT : Gen := ⟨30, 0, 30, 0⟩
def fSz (t : ST) : Cs := [(.cmp .leq (.slen t) (.lit 9223372036854775807), true)]
noncomputable def RHt (sp : CallF) (f : FuncId) (fn : Func) (j : Nat) (Ts : List Tpl) (T : Tpl) (c : Cs) (l : List LS) : Prop := (run Tryz.prog [] sp 4000 true f ((⟨T.tm, T.nt, T.H, T.nl, c ++ T.cs, T.dep⟩ : Tpl).st (.code (lb fn j) :: .inLoop (lb fn j) :: lq fn j))).map (·.filterMap (sumD gT Ts)) = some l
noncomputable def RCt (sp : CallF) (f : FuncId) (fn : Func) (Ts : List Tpl) (args : List AVal) (H : Heap) (cs : Cs) (l : List LS) : Prop := (run Tryz.prog [] sp 4000 true f (entry fn (fn.body.getD .ret) args H 480 cs)).map (·.filterMap (sumD gT Ts)) = some l
section
variable {β : Base} {sp : CallF} {f : FuncId} {fn : Func} {j : Nat} {Ts : List Tpl} {ι : Type} {T : ι → Tpl}
theorem scanT (hsp : CallOk Tryz.prog β sp) (hown : β.own = []) {Q : Value → Prop} (J : ι → Env → Prop) (μ : ι → Env → Nat)
    (hs : ∀ z ρ, J z ρ → GP.at β.G ρ → CRel ρ (T z).cs → (∀ z' ρ', μ z' ρ' < μ z ρ → J z' ρ' → ∀ todo a w, todo = .inLoop (lb fn j) :: lq fn j ∨ todo = .code (.loop (lb fn j)) :: lq fn j → SRel β ρ' ((T z').st todo) a w → Goes Tryz.prog f (fun v w' => Q v ∧ Framed β.w0 w') todo a w) → ∃ c sums, CRel ρ c ∧ RHt sp f fn j Ts (T z) c sums ∧ ∀ s ∈ sums, SumGood Tryz.prog β f Q Ts ρ s) :
    ∀ z ρ, J z ρ → ∀ todo a w, todo = .inLoop (lb fn j) :: lq fn j ∨ todo = .code (.loop (lb fn j)) :: lq fn j → SRel β ρ ((T z).st todo) a w → Goes Tryz.prog f (fun v w' => Q v ∧ Framed β.w0 w') todo a w :=
  loop_goesK (P := Tryz.prog) (Q := Q) (n := 4000) (g := gT) noCount noExt hsp follows hown T J μ fun z ρ hJ hcs hG ih => by
    obtain ⟨c, sums, h1, h2, h3⟩ := hs z ρ hJ hG hcs ih
    exact ⟨true, Ts, c ++ (T z).cs, sums, CRel_app.2 ⟨h1, hcs⟩, h2, h3⟩
theorem callT (hsp : CallOk Tryz.prog β sp) (hown : β.own = []) {Q : Value → Prop} {args : List AVal} {xs : List Value} {H : Heap} {cs : Cs} {ρ : Env} {w : World} {sums : List LS} (hf : Tryz.prog.funcs[f]? = some fn) (hb : fn.body = some (fn.body.getD .ret))
    (hrun : RCt sp f fn Ts args H cs sums) (hx : AVal.denL ρ args = some xs) (hr : HRel β ρ H 480 w) (hc : CRel ρ cs) (h : ∀ s ∈ sums, SumGood Tryz.prog β f Q Ts ρ s) :
    Calls Tryz.prog f xs.toArray w fun e w' => ∃ v, e = .returned v ∧ Q v ∧ Framed β.w0 w' :=
  calls_sumsD (g := gT) (Ts := Ts) (pl := true) noCount noExt hsp follows hown hf hb hrun hx hr hc h
end
-- SMALL LAWS
def at9 : IT := .var 9
def up9 : IT := .bin .add .i64 (.var 9) (.lit 1)
def q9 (op : BinOp) (a b : IT) (x : Bool) : BT × Bool := (.cmp op a b, x)
def cs9 (t : IT) : Cs := [q9 .geq at9 (.lit 0) true, q9 .leq at9 t true]
def lt9 (t : IT) (b : Bool) : Cs := [q9 .lss at9 t b]
section
variable {ρ : Env}
theorem qD {op : BinOp} {a b : IT} {x y : Int} {z : Bool} {cs : Cs} (h : a.den ρ = some x) (g : b.den ρ = some y) (e : intCmp op x y = some z) (c : CRel ρ cs) : CRel ρ (q9 op a b z :: cs) := c1 (by rw [cmpD h g, e]) c
theorem lt9_ok {t : IT} {i n : Nat} {b : Bool} (h9 : ρ.I 9 = (i : Int)) (ht : t.den ρ = some (n : Int)) (hb : decide (i < n) = b) : CRel ρ (lt9 t b) :=
  qD (show at9.den ρ = _ from varD h9) ht (by
    simp only [intCmp, Option.some.injEq]
    rw [← hb, decide_eq_decide]; omega) c0
theorem cs9_ok {t : IT} {i n : Nat} (h9 : ρ.I 9 = (i : Int)) (ht : t.den ρ = some (n : Int)) (hi : i ≤ n) : CRel ρ (cs9 t) :=
  qD (show at9.den ρ = _ from varD h9) (litD 0) (by simp [intCmp]) (qD (show at9.den ρ = _ from varD h9) ht (by simp [intCmp]; omega) c0)
end
theorem catD {ρ : Env} {s t : ST} {a b : List UInt8} (h : s.den ρ = bytes a) (g : t.den ρ = bytes b) : (ST.cat s t).den ρ = bytes (a ++ b) := by
  show s.den ρ ++ t.den ρ = _
  rw [h, g, bcatL]
theorem slitD {ρ : Env} (a : List UInt8) : (ST.lit a).den ρ = bytes a := rfl
theorem fSz_ok {ρ : Env} {t : ST} {l : List UInt8} (h : t.den ρ = bytes l) (hl : l.length ≤ 1000000) : CRel ρ (fSz t) := by
  refine c1 ?_ c0
  show some (decide (((t.den ρ).size : Int) ≤ 9223372036854775807)) = some true
  rw [h, bytes_size]
  simp only [Option.some.injEq, decide_eq_true_eq]; omega
/-- Where strings.Count looks. -/
def MaxW (w : World) : Prop := ∃ m : Int, w.cell? ⟨0, 0, none⟩ = some (.int .i64 m)
theorem MaxW.of {β : Base} {ρ : Env} {H : Heap} {nl : Nat} {w : World} (h : MaxW β.w0) (hown : β.own = []) (hr : HRel β ρ H nl w) : MaxW w := by
  obtain ⟨m, hm⟩ := h
  refine ⟨m, ?_⟩
  have hb : w.heap[0]? = β.w0.heap[0]? := by
    rcases Nat.lt_or_ge 0 β.w0.heap.size with h1 | h1
    · exact hr.frame 0 h1 fun l hl => by rw [hown] at hl; cases hl
    · have h2 : β.w0.heap[0]? = none := Array.getElem?_eq_none h1
      simp [World.cell?, h2] at hm
  unfold World.cell? at hm ⊢
  simp only [hb]
  exact hm
end Txt
end Go.Proofs.YtjjijagclgambaaGreatDoor
