/-
  LinearTells (4): IndexFunc and ContainsFunc over an order.
-/
import Derived.Test.YtpgonpjakllnjaaLt3
section
namespace Go.Proofs.Ytpgonpjakllnjaa
open Go.Vm Go.Vm.Md Lm
namespace Lt

def q9 (op : BinOp) (a b : IT) (x : Bool) : BT × Bool := (.cmp op a b, x)
def inL (a : IT) : Cs := [q9 .geq a (.lit 0) true, q9 .lss a (.var 36) true]
def csRR : Cs := csE .row .row
def cs9 (t : IT) : Cs := [q9 .geq at9 (.lit 0) true, q9 .leq at9 t true]
def lt9 (t : IT) (b : Bool) : Cs := [q9 .lss at9 t b]
/-- A record is refused; it isn't. -/
def fA (a : IT) : Cs := [q9 .geq (rT a 8) (.lit 0) true, q9 .neq (rT a 11) (.lit 0) true]
def fB (a : IT) : Cs := [q9 .geq (rT a 8) (.lit 0) true, q9 .neq (rT a 11) (.lit 0) false, q9 .eql (rT a 9) (.lit 5) true]
def fC (a : IT) : Cs := [q9 .geq (rT a 8) (.lit 0) true, q9 .neq (rT a 11) (.lit 0) false, q9 .eql (rT a 9) (.lit 5) false]
def fD (a : IT) : Cs := [q9 .geq (rT a 8) (.lit 0) false]
def i9 : AVal := iV 9
/-- One is ahead of another; it isn't. -/
def gA (a b : IT) : Cs := [q9 .geq (rT a 8) (.lit 0) true, q9 .lss (rT a 8) (rT b 7) true]
def gB (a b : IT) : Cs := [q9 .geq (rT a 8) (.lit 0) true, q9 .lss (rT a 8) (rT b 7) false]
-- FACTS
section
variable {d : Dt} {ρ : Env}
theorem qD {op : BinOp} {a b : IT} {x y : Int} {z : Bool} {cs : Cs} (h : a.den ρ = some x) (g : b.den ρ = some y) (e : intCmp op x y = some z) (c : CRel ρ cs) : CRel ρ (q9 op a b z :: cs) := c1 (by rw [cmpD h g, e]) c
theorem inL_ok (hG : (Gd d).at ρ) {a : IT} {k : Int} (ha : a.den ρ = some k) (h : d.inR k = true) : CRel ρ (inL a) := by
  simp only [Dt.inR, Bool.and_eq_true, decide_eq_true_eq] at h
  exact qD ha (litD 0) (by simp [intCmp, h.1]) (qD ha (pN hG) (by simp [intCmp, h.2]) c0)
/-- The ways of a record: it is refused in two, it isn't in two. -/
theorem refd_ways (hG : (Gd d).at ρ) {a : IT} {k : Int} (ha : a.den ρ = some k) : (d.refd k = true ∧ (CRel ρ (fA a) ∨ CRel ρ (fB a))) ∨ (d.refd k = false ∧ (CRel ρ (fC a) ∨ CRel ρ (fD a))) := by
  have e8 := rT_den hG ha 8
  have e9 := rT_den hG ha 9
  have e11 := rT_den hG ha 11
  by_cases h8 : 0 ≤ d.c k 8
  · by_cases h11 : d.c k 11 = 0
    · by_cases h9 : d.c k 9 = 5
      · exact .inl ⟨by simp [Dt.refd, h8, h9], .inr (qD e8 (litD 0) (by simp [intCmp, h8]) (qD e11 (litD 0) (by simp [intCmp, h11]) (qD e9 (litD 5) (by simp [intCmp, h9]) c0)))⟩
      · exact .inr ⟨by simp [Dt.refd, h9, h11], .inl (qD e8 (litD 0) (by simp [intCmp, h8]) (qD e11 (litD 0) (by simp [intCmp, h11]) (qD e9 (litD 5) (by simp [intCmp, h9]) c0)))⟩
    · exact .inl ⟨by simp [Dt.refd, h8, h11], .inl (qD e8 (litD 0) (by simp [intCmp, h8]) (qD e11 (litD 0) (by simp [intCmp, h11]) c0))⟩
  · exact .inr ⟨by simp [Dt.refd, h8], .inr (qD e8 (litD 0) (by simp [intCmp, h8]) c0)⟩
/-- The same, with whether it has ended. -/
theorem refd_ways4 (hG : (Gd d).at ρ) {a : IT} {k : Int} (ha : a.den ρ = some k) : (d.refd k = true ∧ CRel ρ (fA a)) ∨ (d.refd k = true ∧ CRel ρ (fB a)) ∨ (d.refd k = false ∧ d.ended k = true ∧ CRel ρ (fC a)) ∨ (d.refd k = false ∧ d.ended k = false ∧ CRel ρ (fD a)) := by
  have e8 := rT_den hG ha 8
  have e9 := rT_den hG ha 9
  have e11 := rT_den hG ha 11
  by_cases h8 : 0 ≤ d.c k 8
  · by_cases h11 : d.c k 11 = 0
    · by_cases h9 : d.c k 9 = 5
      · exact .inr (.inl ⟨by simp [Dt.refd, h8, h9], qD e8 (litD 0) (by simp [intCmp, h8]) (qD e11 (litD 0) (by simp [intCmp, h11]) (qD e9 (litD 5) (by simp [intCmp, h9]) c0))⟩)
      · exact .inr (.inr (.inl ⟨by simp [Dt.refd, h9, h11], by simp [Dt.ended, h8], qD e8 (litD 0) (by simp [intCmp, h8]) (qD e11 (litD 0) (by simp [intCmp, h11]) (qD e9 (litD 5) (by simp [intCmp, h9]) c0))⟩))
    · exact .inl ⟨by simp [Dt.refd, h8, h11], qD e8 (litD 0) (by simp [intCmp, h8]) (qD e11 (litD 0) (by simp [intCmp, h11]) c0)⟩
  · exact .inr (.inr (.inr ⟨by simp [Dt.refd, h8], by simp [Dt.ended, h8], qD e8 (litD 0) (by simp [intCmp, h8]) c0⟩))
theorem ahead_ways (hG : (Gd d).at ρ) {a b : IT} {k l : Int} (ha : a.den ρ = some k) (hb : b.den ρ = some l) : (d.ahead k l = true ∧ CRel ρ (gA a b)) ∨ (d.ahead k l = false ∧ (CRel ρ (gB a b) ∨ CRel ρ (fD a))) := by
  have e8 := rT_den hG ha 8
  have e7 := rT_den hG hb 7
  by_cases h8 : 0 ≤ d.c k 8
  · by_cases h7 : d.c k 8 < d.c l 7
    · exact .inl ⟨by simp [Dt.ahead, h8, h7], qD e8 (litD 0) (by simp [intCmp, h8]) (qD e8 e7 (by simp [intCmp, h7]) c0)⟩
    · exact .inr ⟨by simp [Dt.ahead, h7], .inl (qD e8 (litD 0) (by simp [intCmp, h8]) (qD e8 e7 (by simp [intCmp, h7]) c0))⟩
  · exact .inr ⟨by simp [Dt.ahead, h8], .inr (qD e8 (litD 0) (by simp [intCmp, h8]) c0)⟩
theorem lt9_ok {t : IT} {i n : Nat} {b : Bool} (h9 : ρ.I 9 = (i : Int)) (ht : t.den ρ = some (n : Int)) (hb : decide (i < n) = b) : CRel ρ (lt9 t b) :=
  qD (show at9.den ρ = _ from varD h9) ht (by
    simp only [intCmp, Option.some.injEq]
    rw [← hb, decide_eq_decide]; omega) c0
theorem cs9_ok {t : IT} {i n : Nat} (h9 : ρ.I 9 = (i : Int)) (ht : t.den ρ = some (n : Int)) (hi : i ≤ n) : CRel ρ (cs9 t) :=
  qD (show at9.den ρ = _ from varD h9) (litD 0) (by simp [intCmp]) (qD (show at9.den ρ = _ from varD h9) ht (by simp [intCmp]; omega) c0)
end
/-- The order stands in the history. -/
def In1 (d : Dt) : Prop := ∀ i, i < d.m → d.inR (d.o i) = true
theorem in1_of {d : Dt} (h : anyT d.w1 d.m = false) : In1 d := fun i hi => by
  have := anyT_false h hi
  simp only [Dt.w1, Bool.or_eq_false_iff, Bool.not_eq_false'] at this
  exact this.1
theorem csRR_ok {d : Dt} (ok : DOk d) (hl : d.kl = .row) (hk : d.ko = .row) {ρ : Env} (hG : (Gd d).at ρ) : CRel ρ csRR := by
  have := dcE ok hG
  rw [hl, hk] at this; exact this
structure J5 (d : Dt) (i : Nat) (ρ : Env) : Prop where
  i9 : ρ.I 9 = (i : Int)
  le : i ≤ d.m
  no : anyT d.w3 i = false
theorem J5.of_le {d : Dt} {i : Nat} {ρ ρ' : Env} (h : J5 d i ρ) (g : ρ.Le ρ') : J5 d i ρ' := ⟨by rw [g.i]; exact h.i9, h.le, h.no⟩
structure J6 (d : Dt) (t : Nat) (k : Int) (i : Nat) (ρ : Env) : Prop where
  i9 : ρ.I 9 = (i : Int)
  le : i ≤ t
  i20 : ρ.I 20 = (t : Int)
  i21 : ρ.I 21 = k
  no : anyT (fun j => d.ahead k (d.o j)) i = false
theorem J6.of_le {d : Dt} {t : Nat} {k : Int} {i : Nat} {ρ ρ' : Env} (h : J6 d t k i ρ) (g : ρ.Le ρ') : J6 d t k i ρ' := ⟨by rw [g.i]; exact h.i9, h.le, by rw [g.i]; exact h.i20, by rw [g.i]; exact h.i21, h.no⟩
end Lt
end Go.Proofs.Ytpgonpjakllnjaa
end

/-
  LinearTells (5): IndexFunc as the machine takes it; Invocations.
-/
section
namespace Go.Proofs.Ytpgonpjakllnjaa
open Go.Vm Go.Vm.Md Lm
namespace Lt

def in1C : Cs := [q9 .eql (.var 49) (.lit 0) true]
def cellB (H : Heap) (l : Nat) (v : AVal) (e : TypeId) : Bool := match H.get l with
  | some ⟨.cells [u] e' none, _⟩ => AVal.beq u v && Nat.beq e e'
  | _ => false
theorem cellB_ok {β : Base} {ρ : Env} {H : Heap} {nl : Nat} {w : World} (hh : HRel β ρ H nl w) {l : Nat} {v : AVal} {e : TypeId} (h : cellB H l v e = true) : ∃ b o, ρ.N l = some b ∧ w.heap[b]? = some o ∧ (ABlk.cells [v] e none).rel ρ false o := by
  unfold cellB at h
  split at h
  · rename_i u e' rw hg
    simp only [Bool.and_eq_true] at h
    have h1 := AVal.beq_eq _ _ h.1
    have h2 := Nat.eq_of_beq_eq_true h.2
    subst h1; subst h2
    obtain ⟨b, o, hb, ho, hr⟩ := hh.blk _ _ hg
    exact ⟨b, o, hb, ho, rel_ro hr⟩
  · cases h
def intC (H : Heap) (l : Nat) : Option IT := match H.get l with
  | some ⟨.cells [.int .i64 u] 3 none, _⟩ => some u
  | _ => none
theorem intC_ok {β : Base} {ρ : Env} {H : Heap} {nl : Nat} {w : World} (hh : HRel β ρ H nl w) {l : Nat} {u : IT} (h : intC H l = some u) : ∃ b o, ρ.N l = some b ∧ w.heap[b]? = some o ∧ (ABlk.cells [.int .i64 u] 3 none).rel ρ false o := by
  unfold intC at h
  split at h
  · rename_i u' rw hg
    cases h
    obtain ⟨b, o, hb, ho, hr⟩ := hh.blk _ _ hg
    exact ⟨b, o, hb, ho, rel_ro hr⟩
  · cases h
def spIdx : SpG := fun args H nl cs => match args with
  | [v, .func (.func 55) [] [.ptr a (.lit (.ofNat 0))]] => cond (AVal.beq v (SO .row) && (hasE (EE .row .row) H && (Nat.ble nl 500 && (lookC in1C cs && cellB H a (SL .row) 22)))) (some [.ret (.int .i64 (.var 50)) H nl cs]) none
  | [.slice 1 (.var 64) t (.var 65), .func (.func 56) [] [.ptr a (.lit (.ofNat 0)), .ptr b (.lit (.ofNat 0))]] => match intC H b with
    | some u => cond (hasE (EE .row .row) H && (Nat.ble nl 500 && (begB t cs && (lookC (in1C ++ inL u) cs && cellB H a (SL .row) 22)))) (some [.ret (.int .i64 (.fn 50 t u)) H nl cs]) none
    | none => none
  | _ => none
theorem one_rel {ρ ρ2 : Env} {v v2 : AVal} {e : TypeId} {o : Obj} (h : v2.den ρ2 = v.den ρ) (g : (ABlk.cells [v] e none).rel ρ false o) : (ABlk.cells [v2] e none).rel ρ2 false o := by
  obtain ⟨xs, c, fr, ho, hd, hp, ht, hf⟩ := g
  exact ⟨xs, c, fr, ho, by simp only [AVal.denL, h] at hd ⊢; exact hd, hp, ht, hf⟩
theorem SL_up {ρ ρ2 : Env} (h0 : ρ2.N 0 = ρ.N 0) (h : ∀ i, 30 ≤ i → ρ2.I i = ρ.I i) (k : Kd) : (SL k).den ρ2 = (SL k).den ρ := by
  cases k
  · rfl
  · simp only [SL, Kd.v, AVal.den, IT.den, h0, h 62 (by omega), h 63 (by omega)]
  · simp only [SL, Kd.v, AVal.den, IT.den, h0, h 62 (by omega), h 63 (by omega), h 36 (by omega)]
theorem SO_up {ρ ρ2 : Env} (h0 : ρ2.N 1 = ρ.N 1) (h : ∀ i, 30 ≤ i → ρ2.I i = ρ.I i) (k : Kd) : (SO k).den ρ2 = (SO k).den ρ := by
  cases k
  · rfl
  · simp only [SO, Kd.v, AVal.den, IT.den, h0, h 64 (by omega), h 65 (by omega)]
  · simp only [SO, Kd.v, AVal.den, IT.den, h0, h 64 (by omega), h 65 (by omega), h 38 (by omega)]
-- LOOPS WITH MEMORY
noncomputable def RHM (sp : CallF) (f : FuncId) (fn : Func) (j : Nat) (Rs Ts : List Tpl) (T : Tpl) (c : Cs) (l : List LM) : Prop := (run Try.prog [] sp 4000 true f ((⟨T.tm, T.nt, T.H, T.nl, c ++ T.cs, T.dep⟩ : Tpl).st (.code (lb fn j) :: .inLoop (lb fn j) :: lq fn j))).map (·.filterMap (sumMD gM [] Rs Ts)) = some l
noncomputable def RCM (sp : CallF) (f : FuncId) (fn : Func) (Rs Ts : List Tpl) (args : List AVal) (H : Heap) (cs : Cs) (l : List LM) : Prop := (run Try.prog [] sp 4000 true f (entry fn (fn.body.getD .ret) args H 500 cs)).map (·.filterMap (sumMD gM [] Rs Ts)) = some l
section
variable {β : Base} {sp : CallF} {f : FuncId} {fn : Func} {j : Nat} {Rs Ts : List Tpl} {R : Value → World → Prop} {ι : Type} {T : ι → Tpl}
theorem scanM (hsp : CallOk Try.prog β sp) (J : ι → Env → Prop) (μ : Env → Nat)
    (hs : ∀ z ρ, J z ρ → GP.at β.G ρ → CRel ρ (T z).cs → (∀ z' ρ', μ ρ' < μ ρ → J z' ρ' → ∀ todo a w, todo = .inLoop (lb fn j) :: lq fn j ∨ todo = .code (.loop (lb fn j)) :: lq fn j → SRel β ρ' ((T z').st todo) a w → Goes Try.prog f R todo a w) → ∃ c sums, CRel ρ c ∧ RHM sp f fn j Rs Ts (T z) c sums ∧ ∀ s ∈ sums, MGoodO Try.prog β f R Rs Ts ρ s) :
    ∀ z ρ, J z ρ → ∀ todo a w, todo = .inLoop (lb fn j) :: lq fn j ∨ todo = .code (.loop (lb fn j)) :: lq fn j → SRel β ρ ((T z).st todo) a w → Goes Try.prog f R todo a w := by
  suffices H : ∀ N z ρ, μ ρ = N → J z ρ → ∀ todo a w, todo = .inLoop (lb fn j) :: lq fn j ∨ todo = .code (.loop (lb fn j)) :: lq fn j → SRel β ρ ((T z).st todo) a w → Goes Try.prog f R todo a w from fun z ρ => H _ z ρ rfl
  intro N
  induction N using Nat.strongRecOn with
  | _ N ih =>
    intro z ρ hN hJ todo a w htd r
    obtain ⟨c, sums, h1, h2, h3⟩ := hs z ρ hJ r.h.g r.c fun z' ρ' hlt hJ' todo' a' w' ht' r' => ih (μ ρ') (by omega) z' ρ' rfl hJ' todo' a' w' ht' r'
    obtain ⟨ls, hls, hsum⟩ := Option.map_eq_some_iff.1 h2
    have key : Goes Try.prog f R (.code (lb fn j) :: .inLoop (lb fn j) :: lq fn j) a w := run_sound noCount noExt hsp follows 4000 true f _ ls ρ a w _ hls ⟨r.d, r.n, r.t, r.h, CRel_app.2 ⟨h1, r.c⟩⟩ (m_allO (g := gM) (L := []) (sums := ls.filterMap (sumMO gM [] Rs Ts)) rfl (dcsM hsum h3))
    rcases htd with rfl | rfl
    · exact Goes.one (fun cs => step_inLoop) key
    · exact Goes.one (fun cs => step_loop) key
theorem callM (hsp : CallOk Try.prog β sp) {args : List AVal} {xs : List Value} {H : Heap} {cs : Cs} {ρ : Env} {w : World} {sums : List LM} (hf : Try.prog.funcs[f]? = some fn) (hb : fn.body = some (fn.body.getD .ret))
    (hrun : RCM sp f fn Rs Ts args H cs sums) (hx : AVal.denL ρ args = some xs) (hr : HRel β ρ H 500 w) (hc : CRel ρ cs) (h : ∀ s ∈ sums, MGoodO Try.prog β f R Rs Ts ρ s) :
    Calls Try.prog f xs.toArray w fun e w' => ∃ v, e = .returned v ∧ R v w' :=
  calls_sumsE (g := gM) (L := []) (Rs := Rs) (Ts := Ts) (pl := true) noCount noExt hsp follows hf hb hrun hx hr hc h
end
end Lt
end Go.Proofs.Ytpgonpjakllnjaa
end

/-
  LinearTells (6): Invocations.
-/
section
namespace Go.Proofs.Ytpgonpjakllnjaa
open Go.Vm Go.Vm.Md Lm
namespace Lt

def rI : HB := ⟨.arr (.code [.i64] (.var 23)) [.i64] 3 (.var 22) (.lit 0) (some (.nv 12)), true⟩
def vI : AVal := .slice 13 (.lit 0) (.var 22) (.nv 12)
def csV : Cs := [q9 .geq (.var 22) (.lit 1) true, q9 .leq (.var 22) (.lit 60) true, q9 .leq (.var 22) (.lit 1000000) true]
def TI : Bool → Tpl
  | false => ⟨[(3, .sliceNil), (6, SL .row), (7, .int .i64 (.var 36)), (8, iV 9)], 22, roH (EL .row), 500, cs9 (.var 36) ++ csL .row, 3⟩
  | true => ⟨[(3, vI), (6, SL .row), (7, .int .i64 (.var 36)), (8, iV 9)], 22, roH (EL .row) ++ [(13, rI)], 500, cs9 (.var 36) ++ csL .row ++ csV, 3⟩
def eI : List Tpl := [⟨[(0, vI)], 1, [(13, rI)], 20, [], 0⟩, ⟨[(0, .sliceNil)], 1, [], 20, [], 0⟩]
def tI : List Tpl := [TI false, TI true]
def fK (b : Bool) : Cs := [q9 .eql (rT at9 1) (.lit 2) b]
def up22 : IT := .bin .add .i64 (.var 22) (.lit 1)
noncomputable def nx18 (q : Nat) (σ : Sub) : List LM := [.next q (.inLoop (lb Try.f18 0) :: lq Try.f18 0) [] σ]
def s18a : Sub := ⟨[(9, .lit 0)], [], [], [], [(0, 0)]⟩
def s18b : Sub := ⟨[(22, .lit 1), (9, up9), (23, .un 3 (.lit 0) (.var 9))], [], [], [], [(13, 503), (12, 502), (0, 0)]⟩
def s18c : Sub := ⟨[(9, up9)], [], [], [], [(0, 0)]⟩
def s18d : Sub := ⟨[(22, up22), (9, up9), (23, .un 3 (.var 23) (.var 9))], [], [], [], [(13, 503), (12, 502), (0, 0)]⟩
def s18e : Sub := ⟨[(22, .var 22), (9, up9), (23, .var 23)], [], [], [], [(13, 13), (12, 12), (0, 0)]⟩
def s18f : Sub := ⟨[(22, .var 22), (23, .var 23)], [], [], [], [(13, 13), (12, 12)]⟩
theorem i_in : RCM (spL []) 18 Try.f18 eI tI [SL .row] (ofP (roH (EL .row))) (csL .row) [.next 0 (.code (.loop (lb Try.f18 0)) :: lq Try.f18 0) [] s18a] := by unfold RCM; kernel_rfl
theorem i_0y : RHM (spL []) 18 Try.f18 0 eI tI (TI false) (lt9 (.var 36) true ++ fK true) (nx18 1 s18b) := by unfold RHM; kernel_rfl
theorem i_0n : RHM (spL []) 18 Try.f18 0 eI tI (TI false) (lt9 (.var 36) true ++ fK false) (nx18 0 s18c) := by unfold RHM; kernel_rfl
theorem i_0e : RHM (spL []) 18 Try.f18 0 eI tI (TI false) (lt9 (.var 36) false) [.done 1 [] ⟨[], [], [], [], []⟩] := by unfold RHM; kernel_rfl
theorem i_1y : RHM (spL []) 18 Try.f18 0 eI tI (TI true) (lt9 (.var 36) true ++ fK true) (nx18 1 s18d) := by unfold RHM; kernel_rfl
theorem i_1n : RHM (spL []) 18 Try.f18 0 eI tI (TI true) (lt9 (.var 36) true ++ fK false) (nx18 1 s18e) := by unfold RHM; kernel_rfl
theorem i_1e : RHM (spL []) 18 Try.f18 0 eI tI (TI true) (lt9 (.var 36) false) [.done 0 [] s18f] := by unfold RHM; kernel_rfl
structure JI0 (d : Dt) (i : Nat) (ρ : Env) : Prop where
  i9 : ρ.I 9 = (i : Int)
  le : i ≤ d.n
theorem JI0.of_le {d : Dt} {i : Nat} {ρ ρ' : Env} (h : JI0 d i ρ) (g : ρ.Le ρ') : JI0 d i ρ' := ⟨by rw [g.i]; exact h.i9, h.le⟩
/-- A list that is told by a name, and its length. -/
structure JV (L : List Int) (ρ : Env) : Prop where
  i22 : ρ.I 22 = (L.length : Int)
  i23 : ρ.I 23 = encL L
  ne : L ≠ []
  le : L.length ≤ 60
theorem JV.of_le {L : List Int} {ρ ρ' : Env} (h : JV L ρ) (g : ρ.Le ρ') : JV L ρ' := ⟨by rw [g.i]; exact h.i22, by rw [g.i]; exact h.i23, h.ne, h.le⟩
theorem JV.cs {L : List Int} {ρ : Env} (h : JV L ρ) : CRel ρ csV := by
  have h1 : 1 ≤ L.length := List.length_pos_iff.2 h.ne
  have h2 := h.le
  exact qD (varD h.i22) (litD 1) (by simp [intCmp]; omega) (qD (varD h.i22) (litD 60) (by simp [intCmp]; omega) (qD (varD h.i22) (litD _) (by simp [intCmp]; omega) c0))
def JI (d : Dt) : Bool → Env → Prop
  | false => fun ρ => ∃ i, JI0 d i ρ ∧ d.iv i = []
  | true => fun ρ => ∃ i, JI0 d i ρ ∧ JV (d.iv i) ρ
def RI (d : Dt) (w : World) : Value → World → Prop := fun v w' => (d.iv d.n = [] ∧ v = .slice none 0 0 ∧ Framed w w') ∨ (d.iv d.n ≠ [] ∧ RowOut w w' v 3 [.i64] (d.iv d.n) (d.iv d.n).length)
theorem inv18 {d : Dt} (ok : DOk d) (hl : d.kl = .row) {ρ : Env} {w : World} {xs : List Value} (hr : HRel ⟨w, [], Gd d⟩ ρ (ofP (roH (EL .row))) 500 w) (hx : AVal.denL ρ [SL .row] = some xs) :
    Calls Try.prog 18 xs.toArray w fun e w' => ∃ v, e = .returned v ∧ RI d w v w' := by
  have hn := ok.n60
  have csl : ∀ {ρ : Env}, (Gd d).at ρ → CRel ρ (csL .row) := fun hG => by have := dcL ok hG; rw [hl] at this; exact this
  have c0' : ∀ {i ρ}, JI0 d i ρ → (Gd d).at ρ → CRel ρ (TI false).cs := fun j hG => CRel_app.2 ⟨cs9_ok j.i9 (pN hG) j.le, csl hG⟩
  have c1' : ∀ {i ρ}, JI0 d i ρ → JV (d.iv i) ρ → (Gd d).at ρ → CRel ρ (TI true).cs := fun j v hG => CRel_app.2 ⟨CRel_app.2 ⟨cs9_ok j.i9 (pN hG) j.le, csl hG⟩, v.cs⟩
  have loop := scanM (β := ⟨w, [], Gd d⟩) (sp := spL []) (f := 18) (fn := Try.f18) (j := 0) (Rs := eI) (Ts := tI) (R := RI d w) (T := TI) (noSp0 _) (JI d) (fun ρ => ((d.n : Int) - ρ.I 9).toNat) fun z ρ hJ hG hcs ih => by
    cases z with
    | false =>
      obtain ⟨i, j, hv⟩ := hJ
      have hi := j.le
      by_cases hlt : i < d.n
      · have e9 : at9.den ρ = some (i : Int) := varD j.i9
        have e1 := rT_den hG e9 1
        by_cases hk : d.c (i : Int) 1 = 2
        · refine ⟨_, _, CRel_app.2 ⟨lt9_ok j.i9 (pN hG) (decide_eq_true hlt), qD e1 (litD 2) (by simp [intCmp, hk]) c0⟩, i_0y, one (nextR rfl (fun l hl => by cases hl) fun ρ' hle hG' => ?_)⟩
          have j' := j.of_le hle
          have jn : JI0 d (i + 1) (s18b.app ρ') := ⟨sbI (t := up9) rfl (upD (varD j'.i9) (by omega)), hlt⟩
          have hiv : d.iv (i + 1) = [(i : Int)] := by rw [Dt.iv, if_pos hk, hv]; rfl
          have vn : JV (d.iv (i + 1)) (s18b.app ρ') := by
            rw [hiv]
            exact ⟨rfl, sbI (t := .un 3 (.lit 0) (.var 9)) rfl (snoc_den (L := []) nil_den (varD j'.i9)), by simp, by simp⟩
          have hGn : (Gd d).at (s18b.app ρ') := gKeep rfl hG'
          exact ⟨hGn, c1' jn vn hGn, fun a w' r => ih true _ (by rw [jn.i9, j.i9]; omega) ⟨_, jn, vn⟩ _ a w' (.inl rfl) r⟩
        · refine ⟨_, _, CRel_app.2 ⟨lt9_ok j.i9 (pN hG) (decide_eq_true hlt), qD e1 (litD 2) (by simp [intCmp, hk]) c0⟩, i_0n, one (nextR rfl (fun l hl => by cases hl) fun ρ' hle hG' => ?_)⟩
          have j' := j.of_le hle
          have jn : JI0 d (i + 1) (s18c.app ρ') := ⟨sbI (t := up9) rfl (upD (varD j'.i9) (by omega)), hlt⟩
          have hGn : (Gd d).at (s18c.app ρ') := gKeep rfl hG'
          exact ⟨hGn, c0' jn hGn, fun a w' r => ih false _ (by rw [jn.i9, j.i9]; omega) ⟨_, jn, by rw [Dt.iv, if_neg hk]; exact hv⟩ _ a w' (.inl rfl) r⟩
      · obtain rfl : i = d.n := by omega
        refine ⟨_, _, lt9_ok j.i9 (pN hG) (decide_eq_false hlt), i_0e, one (doneR rfl (fun l hl => by cases hl) fun ρ' hle hG' => ⟨gKeep rfl hG', c0, fun x w' r => ?_⟩)⟩
        obtain ⟨y, hy, he⟩ := r.t 0 _ rfl
        obtain rfl : x = y := Option.some.inj he
        exact .inl ⟨hv, (Option.some.inj hy).symm, Framed.of r.h⟩
    | true =>
      obtain ⟨i, j, hv⟩ := hJ
      have hi := j.le
      by_cases hlt : i < d.n
      · have e9 : at9.den ρ = some (i : Int) := varD j.i9
        have e1 := rT_den hG e9 1
        by_cases hk : d.c (i : Int) 1 = 2
        · refine ⟨_, _, CRel_app.2 ⟨lt9_ok j.i9 (pN hG) (decide_eq_true hlt), qD e1 (litD 2) (by simp [intCmp, hk]) c0⟩, i_1y, one (nextR rfl (fun l hl => by cases hl) fun ρ' hle hG' => ?_)⟩
          have j' := j.of_le hle
          have v' := hv.of_le hle
          have jn : JI0 d (i + 1) (s18d.app ρ') := ⟨sbI (t := up9) rfl (upD (varD j'.i9) (by omega)), hlt⟩
          have hiv : d.iv (i + 1) = d.iv i ++ [(i : Int)] := by rw [Dt.iv, if_pos hk]
          have hlen := d.iv_le i
          have vn : JV (d.iv (i + 1)) (s18d.app ρ') := by
            rw [hiv]
            refine ⟨?_, sbI (t := .un 3 (.var 23) (.var 9)) rfl (snoc_den (varD v'.i23) (varD j'.i9)), by simp, by rw [List.length_append]; show (d.iv i).length + 1 ≤ 60; omega⟩
            rw [List.length_append]
            exact sbI (t := up22) rfl (upD (varD v'.i22) (by omega))
          have hGn : (Gd d).at (s18d.app ρ') := gKeep rfl hG'
          exact ⟨hGn, c1' jn vn hGn, fun a w' r => ih true _ (by rw [jn.i9, j.i9]; omega) ⟨_, jn, vn⟩ _ a w' (.inl rfl) r⟩
        · refine ⟨_, _, CRel_app.2 ⟨lt9_ok j.i9 (pN hG) (decide_eq_true hlt), qD e1 (litD 2) (by simp [intCmp, hk]) c0⟩, i_1n, one (nextR rfl (fun l hl => by cases hl) fun ρ' hle hG' => ?_)⟩
          have j' := j.of_le hle
          have v' := hv.of_le hle
          have jn : JI0 d (i + 1) (s18e.app ρ') := ⟨sbI (t := up9) rfl (upD (varD j'.i9) (by omega)), hlt⟩
          have vn : JV (d.iv (i + 1)) (s18e.app ρ') := by
            rw [Dt.iv, if_neg hk]; exact ⟨v'.i22, v'.i23, v'.ne, v'.le⟩
          have hGn : (Gd d).at (s18e.app ρ') := gKeep rfl hG'
          exact ⟨hGn, c1' jn vn hGn, fun a w' r => ih true _ (by rw [jn.i9, j.i9]; omega) ⟨_, jn, vn⟩ _ a w' (.inl rfl) r⟩
      · obtain rfl : i = d.n := by omega
        refine ⟨_, _, lt9_ok j.i9 (pN hG) (decide_eq_false hlt), i_1e, one (doneR rfl (fun l hl => by cases hl) fun ρ' hle hG' => ⟨gKeep rfl hG', c0, fun x w' r => ?_⟩)⟩
        obtain ⟨y, hy, he⟩ := r.t 0 _ rfl
        obtain rfl : x = y := Option.some.inj he
        have v' := hv.of_le hle
        exact .inr ⟨hv.ne, row_out (l := 13) (j := 12) (nT := .var 22) (c := .var 23) rfl r.h rfl hy (varD v'.i22) (varD v'.i23)⟩
  refine callM (noSp0 _) Try.func18 rfl i_in hx hr (csl hr.g) (one (nextR rfl (fun l hl => by cases hl) fun ρ' hle hG' => ?_))
  have jn : JI0 d 0 (s18a.app ρ') := ⟨sbI (t := .lit 0) rfl rfl, by omega⟩
  have hGn : (Gd d).at (s18a.app ρ') := gKeep rfl hG'
  exact ⟨hGn, c0' jn hGn, fun a w' r => loop false _ ⟨0, jn, rfl⟩ _ a w' (.inr rfl) r⟩
/-- No invocation; some. -/
def spInv (z : Bool) : SpG := cond z (spE 500 [SL .row] (EL .row) [] .sliceNil) (spRow 500 [SL .row] (EL .row) [] (.var 48) (.var 47) 3 [.i64])
end Lt
end Go.Proofs.Ytpgonpjakllnjaa
end
