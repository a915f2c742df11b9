/-
  RankTables (15): lines and names, as the machine takes them; the heads of both tables.
-/
import Derived.Test.YtglghnfbkiondaaDoorRt13
import Derived.Test.YtglghnfbkiondaaDoorRt10
section
namespace Go.Proofs.YtglghnfbkiondaaDoor
open Go.Vm Go.Vm.Rk Go.Vm.Mr
namespace Rt
open Rk

-- LINES
theorem stp_mem (d : Dt) (k a : Int) : ∀ i, ∀ v ∈ d.stp k a i, ∃ j, j < i ∧ v = d.c j 12
  | 0, v, h => by cases h
  | i + 1, v, h => by
    unfold Dt.stp at h
    split at h
    · rcases List.mem_append.1 h with h | h
      · obtain ⟨j, h1, h2⟩ := stp_mem d k a i v h
        exact ⟨j, by omega, h2⟩
      · exact ⟨i, by omega, List.mem_singleton.1 h⟩
    · obtain ⟨j, h1, h2⟩ := stp_mem d k a i v h
      exact ⟨j, by omega, h2⟩
theorem steps_ran {d : Dt} (ok : DOk d) (k a : Int) : ∀ v ∈ d.steps k a, Ran v := fun v h => by
  obtain ⟨j, h1, h2⟩ := stp_mem d k a d.n v h
  rw [h2]; exact ok.ran j 12 h1 (by decide)
theorem sumW_ran (L : List Int) (i : Nat) : Ran (sumW L i) := by
  cases i with
  | zero => exact (show Ran 0 from ⟨by decide, by decide⟩)
  | succ i =>
    rw [sumW]
    unfold Ran
    rw [IntKind.wrap_i64]; omega
theorem sort_ran {L : List Int} (h : ∀ v ∈ L, Ran v) (i : Nat) : Ran ((sortL L).getD i 0) := by
  rcases Nat.lt_or_ge i L.length with h1 | h1
  · exact h _ (sortL_mem L h1)
  · rw [List.getD_eq_getElem?_getD, List.getElem?_eq_none (by rw [sortL_len]; exact h1)]; exact ⟨by decide, by decide⟩
theorem rank_ran {d : Dt} (ok : DOk d) (k a : Int) : ∀ x ∈ rank6 (d.steps k a), InJ x := by
  have h := steps_ran ok k a
  have hl := steps_le d k a ok.n100
  intro x hx
  simp only [rank6, List.mem_cons, List.not_mem_nil, or_false] at hx
  rcases hx with rfl | rfl | rfl | rfl | rfl | rfl
  · exact ⟨by omega, by omega⟩
  · exact sort_ran h _
  · exact sort_ran h _
  · exact sumW_ran _ _
  · exact sort_ran h _
  · exact sort_ran h _
theorem lineT_len {l : List Int} (h : ∀ x ∈ l, InJ x) : (lineT l).length ≤ 120 := by
  have h0 := fun i => itoa_len (in0 h i).1 (in0 h i).2
  have := h0 0; have := h0 1; have := h0 2; have := h0 4; have := h0 5
  simp only [lineT, List.length_append, List.length_cons, List.length_nil]; omega
theorem lineS_len {d : Dt} (ok : DOk d) (k a : Int) : (d.lineS k a).length ≤ 120 := lineT_len (rank_ran ok k a)
/-- A word: known, or an operation's name. -/
def wordB : ST → Bool
  | .lit b => Nat.ble b.length 1000
  | .fn k _ _ => Nat.beq k 6
  | _ => false
def spLine : SpG := fun args H nl cs => match args with
  | [.str s, .agg (.int .i64 (.fn 77 k a) :: r)] => match k.toP, a.toP with
    | some p, some q => cond (AVal.beq (.agg (.int .i64 (.fn 77 k a) :: r)) (rkT k a) && wordB s) (some [.ret (.str (.cat s (.fn 5 p q))) H nl cs]) none
    | _, _ => none
  | _ => none
def spName : SpG := fun args H nl cs => match args with
  | [.int .i64 t] => match t.toP with
    | some p => cond (sureC cs (.cmp .geq t (.lit 0)) && sureC cs (.cmp .lss t (.lit 15))) (some [.ret (.str (.fn 6 p (.lit 0))) H nl cs]) none
    | none => none
  | _ => none
section
variable {d : Dt} {β : Base} {ρ : Env}
theorem nameT_len : ∀ c, (nameT c).length ≤ 8 := by
  intro c
  unfold nameT
  split <;> decide
theorem tabA_text {k : Nat} (x y : Int) (hk : k = 5) : textD d k x y = d.lineS x y := by subst hk; rfl
theorem fnN_den (hG : (Gd d).at ρ) (p q : PT) : (ST.fn 6 p q).den ρ = bt (nameT (p.den ρ).toNat) := by
  have hl : (textD d 6 (p.den ρ) (q.den ρ)).length ≤ 1000000 := by
    show (nameT (p.den ρ).toNat).length ≤ _
    have := nameT_len (p.den ρ).toNat; omega
  exact (fn_den hG (k := 6) rfl rfl hl).trans rfl
theorem fnL_den (ok : DOk d) (hG : (Gd d).at ρ) (p q : PT) : (ST.fn 5 p q).den ρ = bt (d.lineS (p.den ρ) (q.den ρ)) := by
  have hl : (textD d 5 (p.den ρ) (q.den ρ)).length ≤ 1000000 := by
    show (d.lineS (p.den ρ) (q.den ρ)).length ≤ _
    have := lineS_len ok (p.den ρ) (q.den ρ); omega
  exact (fn_den hG (k := 5) rfl rfl hl).trans rfl
theorem word_den (hG : (Gd d).at ρ) {s : ST} (h : wordB s = true) : ∃ l, s.den ρ = bt l ∧ l.length ≤ 1000 := by
  unfold wordB at h
  split at h
  · rename_i b
    exact ⟨b, rfl, Nat.le_of_ble_eq_true h⟩
  · rename_i k p q
    obtain rfl := Nat.eq_of_beq_eq_true h
    exact ⟨_, fnN_den hG p q, by have := nameT_len (p.den ρ).toNat; omega⟩
  · cases h
theorem spLine_ok (ok : DOk d) (hβ : β.G = Gd d) {g : FuncId}
    (hg : ∀ {ρ : Env} {H : Heap} {nl : Nat} {w : World}, HRel β ρ H nl w → ∀ (s : List UInt8) (l : List Int), s.length ≤ 1000 → l.length = 6 → (∀ x ∈ l, InJ x) → Calls Tryd.prog g #[.string (bt s), .agg (l.map (Value.int .i64)).toArray] w (fun e w' => e = .returned (.string (bt (s ++ lineT l))) ∧ Framed w w')) : SpGOk Tryd.prog β g spLine := by
  intro args H nl cs ls ρ w xs hr hx hh hc
  unfold spLine at hr
  split at hr
  rotate_left
  · cases hr
  rename_i s k a r
  split at hr
  rotate_left
  · cases hr
  rename_i p q hp hq
  cases hb : (AVal.beq (.agg (.int .i64 (.fn 77 k a) :: r)) (rkT k a) && wordB s) with
  | false => rw [hb] at hr; cases hr
  | true =>
    rw [hb] at hr; simp only [cond_true, Option.some.injEq] at hr
    subst hr
    simp only [Bool.and_eq_true] at hb
    obtain ⟨h1, h2⟩ := hb
    have h1 := AVal.beq_eq _ _ h1
    have hG : (Gd d).at ρ := by have := hh.g; rw [hβ] at this; exact this
    obtain ⟨l, hl, hl2⟩ := word_den hG h2
    have hk := IT.toP_den (ρ := ρ) hp
    have ha := IT.toP_den (ρ := ρ) hq
    have hx' : AVal.denL ρ [.str s, .agg (.int .i64 (.fn 77 k a) :: r)] = some [.string (bt l), v6 (rank6 (d.steps (p.den ρ) (q.den ρ)))] := by
      rw [h1]
      exact denL2 (by simp only [AVal.den, hl]) (rk_den hG hk ha)
    obtain rfl := Option.some.inj (hx'.symm.trans hx)
    refine spV_ok (hg hh l _ hl2 rfl (rank_ran ok _ _)) ?_ hh hc
    have := catD hl (fnL_den ok hG p q)
    simp only [AVal.den, this]; rfl
theorem spName_ok {g : FuncId} (hβ : β.G = Gd d) (hg : ∀ (w : World) {k : Int}, 0 ≤ k ∧ k < 15 → Calls Tryd.prog g #[.int .i64 k] w (fun e w' => e = .returned (.string (bt (nameT k.toNat))) ∧ Framed w w')) : SpGOk Tryd.prog β g spName := by
  intro args H nl cs ls ρ w xs hr hx hh hc
  unfold spName at hr
  split at hr
  rotate_left
  · cases hr
  rename_i t
  split at hr
  rotate_left
  · cases hr
  rename_i p hp
  cases hb : (sureC cs (.cmp .geq t (.lit 0)) && sureC cs (.cmp .lss t (.lit 15))) with
  | false => rw [hb] at hr; cases hr
  | true =>
    rw [hb] at hr; simp only [cond_true, Option.some.injEq] at hr
    subst hr
    simp only [Bool.and_eq_true] at hb
    obtain ⟨h1, h2⟩ := hb
    have hG : (Gd d).at ρ := by have := hh.g; rw [hβ] at this; exact this
    have hk := IT.toP_den (ρ := ρ) hp
    have g1 := sureC_ok h1 hc
    have g2 := sureC_ok h2 hc
    rw [cmpD hk (litD 0)] at g1
    rw [cmpD hk (litD 15)] at g2
    simp only [intCmp, Option.some.injEq, decide_eq_true_eq] at g1 g2
    have hx' : AVal.denL ρ [.int .i64 t] = some [.int .i64 (p.den ρ)] := denL1 (by simp only [AVal.den, hk, Option.map_some])
    obtain rfl := Option.some.inj (hx'.symm.trans hx)
    refine spV_ok (hg w ⟨g1, g2⟩) ?_ hh hc
    simp only [AVal.den, fnN_den hG p (.lit 0)]
end
-- THE HEADS
def wS : AVal := .slice 14 (.lit 0) (.lit 4) (.lit 4)
def wB : HB := ⟨.cells [.str (.lit (wordT 0)), .str (.lit (wordT 1)), .str (.lit (wordT 2)), .str (.lit (wordT 3))] 9 none, true⟩
def s7 : AVal := .str (.var 7)
def kS : AVal := .slice 13 (.lit 0) (.var 37) (.nv 12)
def kB' : HB := ⟨.arr (.code [.i64] (.var 38)) [.i64] 3 (.var 37) (.lit 0) (some (.nv 12)), true⟩
def mB : HB := ⟨.big 5 (.var 39), true⟩
def csK : Cs := [q9 .geq (.var 37) (.lit 1) true, q9 .leq (.var 37) (.lit 100) true]
/-- The program's table: words; keys; no keys. -/
def TW15 (i : Nat) : Tpl := ⟨[(0, SL .row), (3, s7), (10, wS), (11, .int .i64 (.lit 4)), (12, .int .i64 (.lit (.ofNat i)))], 51, roH (EL .row) ++ [(14, wB)], 480, csL .row, 3⟩
def TK15 : Tpl := ⟨[(3, s7), (7, .map 20), (35, kS), (36, .int .i64 (.var 37)), (37, iV 9)], 51, [(20, mB), (13, kB')], 480, cs9 (.var 37) ++ csK, 3⟩
def TN15 : Tpl := ⟨[(3, s7), (36, .int .i64 (.lit 0)), (37, .int .i64 (.lit 0))], 51, [], 480, [], 3⟩
def t15 : List Tpl := [TK15, TN15, TW15 0, TW15 1, TW15 2, TW15 3, TW15 4]
def TW16 (i : Nat) : Tpl := ⟨[(0, SL .row), (3, s7), (9, wS), (10, .int .i64 (.lit 4)), (11, .int .i64 (.lit (.ofNat i)))], 48, roH (EL .row) ++ [(14, wB)], 480, csL .row, 3⟩
def TC16 : Tpl := ⟨[(0, SL .row), (3, s7), (7, iV 9)], 48, roH (EL .row), 480, cs9 (.lit 15) ++ csL .row, 3⟩
def t16 : List Tpl := [TC16, TW16 0, TW16 1, TW16 2, TW16 3, TW16 4]
def sp15 : CallF := spLH [(8, spOf), (13, spSt13), (17, spOps), (19, spKey), (27, spLine), (29, spName)] (orH hkLk hkLn)
def sp16 : CallF := spL [(10, spOf), (14, spSt14), (30, spLine), (31, spName)]
def fE' (k a : IT) (b : Bool) : Cs := [(eT k a, b)]
def fSz (t : ST) : Cs := [(.cmp .leq (.slen t) (.lit 9223372036854775807), true)]
def gT : Gen := ⟨30, 0, 10, 0⟩
/-- A key of the map. -/
def kyT : IT := .un 0 (.var 38) (.elem (.lit 0) 1 0 at9)
def fKy : Cs := [q9 .geq kyT (.lit 0) true, q9 .lss kyT (.lit 15) true]
def kyP : PT := .un 0 (.var 38) (.elem (.lit 0) 1 0 (.var 9))
def keyX : ST := .cat (.var 7) (.cat (.fn 6 kyP (.lit 0)) (.fn 5 (.lit 2) kyP))
def codeX : ST := .cat (.var 7) (.cat (.fn 6 (.var 9) (.lit 0)) (.fn 5 (.lit 2) (.var 9)))
/-- One more line. -/
def wordX (i : Nat) : ST := .cat (.var 7) (.cat (.lit (wordT i)) (.fn 5 (.lit (.ofNat (i + 1))) (.lit (-1))))
end Rt
end Go.Proofs.YtglghnfbkiondaaDoor
end

/-
  RankTables (16): the program's table.
-/
section
namespace Go.Proofs.YtglghnfbkiondaaDoor
open Go.Vm Go.Vm.Rk Go.Vm.Mr
namespace Rt
open Rk

-- PLAIN
theorem wordT_len : ∀ i, (wordT i).length ≤ 6 := by
  intro i
  unfold wordT
  split <;> decide
section
variable {d : Dt}
theorem tabA_len (ok : DOk d) : ∀ i, (d.tabA i).length ≤ i * 128
  | 0 => Nat.zero_le _
  | i + 1 => by
    have := tabA_len ok i
    have := wordT_len i
    have := lineS_len ok ((i : Int) + 1) (-1)
    unfold Dt.tabA Dt.oneA
    rw [List.length_append]
    split
    · simp only [List.length_nil]; omega
    · rw [List.length_append]; omega
theorem tabC_len (ok : DOk d) : ∀ c, (d.tabC c).length ≤ 512 + c * 128
  | 0 => by have := tabA_len ok 4; unfold Dt.tabC; omega
  | c + 1 => by
    have := tabC_len ok c
    have := nameT_len c
    have := lineS_len ok 2 (c : Int)
    unfold Dt.tabC Dt.oneC
    rw [List.length_append]
    split
    · simp only [List.length_nil]; omega
    · rw [List.length_append]; omega
theorem tabK_len (ok : DOk d) : ∀ i, (d.tabK i).length ≤ 512 + i * 128
  | 0 => by have := tabA_len ok 4; unfold Dt.tabK; omega
  | i + 1 => by
    have := tabK_len ok i
    have := nameT_len (d.keys.getD i 0).toNat
    have := lineS_len ok 2 (d.keys.getD i 0)
    unfold Dt.tabK
    rw [List.length_append, List.length_append]; omega
theorem keys_len (ok : DOk d) : d.keys.length ≤ 100 := by
  have := ents_len d; have := ok.n100
  rw [Dt.keys, sortL_len, List.length_map]; omega
theorem keys_mem {i : Nat} (h : i < d.keys.length) : ∃ p ∈ d.ents, p.1 = d.keys.getD i 0 := by
  have hl : i < (d.ents.map (·.1)).length := by rw [Dt.keys, sortL_len] at h; exact h
  have := sortL_mem (d.ents.map (·.1)) hl
  obtain ⟨p, hp, he⟩ := List.mem_map.1 this
  exact ⟨p, hp, he⟩
theorem keys_ran (hC : Cd d) {i : Nat} (h : i < d.keys.length) : 0 ≤ d.keys.getD i 0 ∧ d.keys.getD i 0 < 15 := by
  obtain ⟨p, hp, he⟩ := keys_mem h
  have := ents_key hC p hp
  rw [he] at this; exact this
theorem keys_steps (hC : Cd d) {i : Nat} (h : i < d.keys.length) : d.steps 2 (d.keys.getD i 0) ≠ [] := fun e => by
  obtain ⟨p, hp, he⟩ := keys_mem h
  have h0 := (keys_ran hC h).1
  have := d.ents_get (d.keys.getD i 0) h0
  rw [if_pos e] at this
  exact getE_none this p hp he
end
-- RUNS WITH TEXTS
noncomputable def RHt (sp : CallF) (f : FuncId) (fn : Func) (j : Nat) (Ts : List Tpl) (T : Tpl) (c : Cs) (l : List LS) : Prop := (run Tryd.prog [] sp 4000 true f ((⟨T.tm, T.nt, T.H, T.nl, c ++ T.cs, T.dep⟩ : Tpl).st (.code (lb fn j) :: .inLoop (lb fn j) :: lq fn j))).map (·.filterMap (sumD gT Ts)) = some l
noncomputable def RCt (sp : CallF) (f : FuncId) (fn : Func) (Ts : List Tpl) (args : List AVal) (H : Heap) (cs : Cs) (l : List LS) : Prop := (run Tryd.prog [] sp 4000 true f (entry fn (fn.body.getD .ret) args H 480 cs)).map (·.filterMap (sumD gT Ts)) = some l
section
variable {β : Base} {sp : CallF} {f : FuncId} {fn : Func} {j : Nat} {Ts : List Tpl} {ι : Type} {T : ι → Tpl}
theorem scanT (hsp : CallOk Tryd.prog β sp) (hown : β.own = []) {Q : Value → Prop} (J : ι → Env → Prop) (μ : ι → Env → Nat)
    (hs : ∀ z ρ, J z ρ → GP.at β.G ρ → CRel ρ (T z).cs → (∀ z' ρ', μ z' ρ' < μ z ρ → J z' ρ' → ∀ todo a w, todo = .inLoop (lb fn j) :: lq fn j ∨ todo = .code (.loop (lb fn j)) :: lq fn j → SRel β ρ' ((T z').st todo) a w → Goes Tryd.prog f (fun v w' => Q v ∧ Framed β.w0 w') todo a w) → ∃ c sums, CRel ρ c ∧ RHt sp f fn j Ts (T z) c sums ∧ ∀ s ∈ sums, SumGood Tryd.prog β f Q Ts ρ s) :
    ∀ z ρ, J z ρ → ∀ todo a w, todo = .inLoop (lb fn j) :: lq fn j ∨ todo = .code (.loop (lb fn j)) :: lq fn j → SRel β ρ ((T z).st todo) a w → Goes Tryd.prog f (fun v w' => Q v ∧ Framed β.w0 w') todo a w :=
  loop_goesK (P := Tryd.prog) (Q := Q) (n := 4000) (g := gT) noCount noExt hsp follows hown T J μ fun z ρ hJ hcs hG ih => by
    obtain ⟨c, sums, h1, h2, h3⟩ := hs z ρ hJ hG hcs ih
    exact ⟨true, Ts, c ++ (T z).cs, sums, CRel_app.2 ⟨h1, hcs⟩, h2, h3⟩
theorem callT (hsp : CallOk Tryd.prog β sp) (hown : β.own = []) {Q : Value → Prop} {args : List AVal} {xs : List Value} {H : Heap} {cs : Cs} {ρ : Env} {w : World} {sums : List LS} (hf : Tryd.prog.funcs[f]? = some fn) (hb : fn.body = some (fn.body.getD .ret))
    (hrun : RCt sp f fn Ts args H cs sums) (hx : AVal.denL ρ args = some xs) (hr : HRel β ρ H 480 w) (hc : CRel ρ cs) (h : ∀ s ∈ sums, SumGood Tryd.prog β f Q Ts ρ s) :
    Calls Tryd.prog f xs.toArray w fun e w' => ∃ v, e = .returned v ∧ Q v ∧ Framed β.w0 w' :=
  calls_sumsD (g := gT) (Ts := Ts) (pl := true) noCount noExt hsp follows hown hf hb hrun hx hr hc h
end
section
variable {d : Dt} {ρ : Env}
theorem fSz_ok {t : ST} {l : List UInt8} (h : t.den ρ = bt l) (hl : l.length ≤ 1000000) : CRel ρ (fSz t) := by
  refine c1 ?_ c0
  show some (decide (((t.den ρ).size : Int) ≤ 9223372036854775807)) = some true
  rw [h]
  have : (bt l).size = l.length := by show l.toArray.size = _; simp
  rw [this]
  simp only [Option.some.injEq, decide_eq_true_eq]; omega
theorem s7_den {l : List UInt8} (h : ρ.S 7 = bt l) : (ST.var 7).den ρ = bt l := h
theorem wordX_den (ok : DOk d) (hG : (Gd d).at ρ) {i : Nat} (h : ρ.S 7 = bt (d.tabA i)) : (wordX i).den ρ = bt (d.tabA i ++ (wordT i ++ d.lineS ((i : Int) + 1) (-1))) :=
  catD (s7_den h) (catD (slitD _) (fnL_den ok hG (.lit (.ofNat (i + 1))) (.lit (-1))))
theorem tabA_yes {i : Nat} (h : d.steps ((i : Int) + 1) (-1) ≠ []) : d.tabA (i + 1) = d.tabA i ++ (wordT i ++ d.lineS ((i : Int) + 1) (-1)) := by
  rw [Dt.tabA, Dt.oneA, if_neg h]
theorem tabA_no {i : Nat} (h : d.steps ((i : Int) + 1) (-1) = []) : d.tabA (i + 1) = d.tabA i := by
  rw [Dt.tabA, Dt.oneA, if_pos h, List.append_nil]
theorem fE_ok (hG : (Gd d).at ρ) {k a : IT} {kz az : Int} (hk : k.den ρ = some kz) (ha : a.den ρ = some az) {b : Bool} (hb : decide (d.steps kz az = []) = b) : CRel ρ (fE' k a b) := c1 (by rw [e_den hG hk ha, hb]) c0
theorem kE_den (hG : (Gd d).at ρ) : kE.den ρ = some (decide (d.keys.length = 0)) := by
  have e37 : (IT.var 37).den ρ = some ((d.keys.length : Nat) : Int) := pin hG (by simp [pins])
  unfold kE
  rw [cmpD e37 (litD 0)]
  simp only [intCmp, Option.some.injEq]
  cases hq : d.keys.length with
  | zero => rfl
  | succ n => simp; omega
theorem csL_row (ok : DOk d) (hl : d.kl = .row) (hG : (Gd d).at ρ) : CRel ρ (csL .row) := by have := dcL ok hG; rw [hl] at this; exact this
end
-- THE WORDS
def sWn : Sub := ⟨[], [], [(7, .var 7)], [], [(0, 0), (14, 14)]⟩
def sWy (i : Nat) : Sub := ⟨[], [], [(7, wordX i)], [], [(0, 0), (14, 14)]⟩
def sW0 : Sub := ⟨[], [], [(7, .lit [])], [], [(0, 0), (14, 480)]⟩
def kW (i : Nat) : IT := .lit (.ofNat (i + 1))
noncomputable def w15 (i : Nat) (c : Cs) (σ : Sub) : Prop := RHt sp15 15 Tryd.f15 0 t15 (TW15 i) c [.next (i + 3) (.inLoop (lb Tryd.f15 0) :: lq Tryd.f15 0) [] σ]
theorem w15_in : RCt sp15 15 Tryd.f15 t15 [SL .row] (ofP (roH (EL .row))) (csL .row) [.next 2 (.code (.loop (lb Tryd.f15 0)) :: lq Tryd.f15 0) [] sW0] := by unfold RCt; kernel_rfl
theorem w15_n0 : w15 0 (fE' (kW 0) (.lit (-1)) true) sWn := by unfold w15 RHt; kernel_rfl
theorem w15_n1 : w15 1 (fE' (kW 1) (.lit (-1)) true) sWn := by unfold w15 RHt; kernel_rfl
theorem w15_n2 : w15 2 (fE' (kW 2) (.lit (-1)) true) sWn := by unfold w15 RHt; kernel_rfl
theorem w15_n3 : w15 3 (fE' (kW 3) (.lit (-1)) true) sWn := by unfold w15 RHt; kernel_rfl
theorem w15_y0 : w15 0 (fE' (kW 0) (.lit (-1)) false ++ fSz (wordX 0)) (sWy 0) := by unfold w15 RHt; kernel_rfl
theorem w15_y1 : w15 1 (fE' (kW 1) (.lit (-1)) false ++ fSz (wordX 1)) (sWy 1) := by unfold w15 RHt; kernel_rfl
theorem w15_y2 : w15 2 (fE' (kW 2) (.lit (-1)) false ++ fSz (wordX 2)) (sWy 2) := by unfold w15 RHt; kernel_rfl
theorem w15_y3 : w15 3 (fE' (kW 3) (.lit (-1)) false ++ fSz (wordX 3)) (sWy 3) := by unfold w15 RHt; kernel_rfl
theorem w15_n : ∀ i, i < 4 → w15 i (fE' (kW i) (.lit (-1)) true) sWn := by
  intro i hi
  match i, hi with
  | 0, _ => exact w15_n0
  | 1, _ => exact w15_n1
  | 2, _ => exact w15_n2
  | 3, _ => exact w15_n3
theorem w15_y : ∀ i, i < 4 → w15 i (fE' (kW i) (.lit (-1)) false ++ fSz (wordX i)) (sWy i) := by
  intro i hi
  match i, hi with
  | 0, _ => exact w15_y0
  | 1, _ => exact w15_y1
  | 2, _ => exact w15_y2
  | 3, _ => exact w15_y3
theorem t15_at : ∀ i, i < 4 → t15[i + 3]? = some (TW15 (i + 1)) := by
  intro i hi
  match i, hi with
  | 0, _ => rfl
  | 1, _ => rfl
  | 2, _ => rfl
  | 3, _ => rfl
def sK0 : Sub := ⟨[(9, .lit 0)], [], [(7, .var 7)], [], [(20, 480), (13, 483), (12, 482)]⟩
def sN0 : Sub := ⟨[], [], [(7, .var 7)], [], []⟩
def sKy : Sub := ⟨[(9, up9)], [], [(7, keyX)], [], [(20, 20), (13, 13), (12, 12)]⟩
theorem w15_en : RHt sp15 15 Tryd.f15 0 t15 (TW15 4) [(kE, true)] [.next 1 (.code (.loop (lb Tryd.f15 1)) :: lq Tryd.f15 1) [] sN0] := by unfold RHt; kernel_rfl
theorem w15_ey : RHt sp15 15 Tryd.f15 0 t15 (TW15 4) [(kE, false)] [.next 0 (.code (.loop (lb Tryd.f15 1)) :: lq Tryd.f15 1) [] sK0] := by unfold RHt; kernel_rfl
theorem k15_n : RHt sp15 15 Tryd.f15 1 t15 TN15 [] [.ret s7 []] := by unfold RHt; kernel_rfl
theorem k15_y : RHt sp15 15 Tryd.f15 1 t15 TK15 (lt9 (.var 37) true ++ (fKy ++ (fE' (.lit 2) kyT false ++ fSz keyX))) [.next 0 (.inLoop (lb Tryd.f15 1) :: lq Tryd.f15 1) [] sKy] := by unfold RHt; kernel_rfl
theorem k15_e : RHt sp15 15 Tryd.f15 1 t15 TK15 (lt9 (.var 37) false) [.ret s7 []] := by unfold RHt; kernel_rfl
structure JK (d : Dt) (i : Nat) (ρ : Env) : Prop where
  i9 : ρ.I 9 = (i : Int)
  le : i ≤ d.keys.length
  pos : 1 ≤ d.keys.length
  s7 : ρ.S 7 = bt (d.tabK i)
theorem JK.of_le {d : Dt} {i : Nat} {ρ ρ' : Env} (h : JK d i ρ) (g : ρ.Le ρ') : JK d i ρ' := ⟨by rw [g.i]; exact h.i9, h.le, h.pos, by rw [g.s]; exact h.s7⟩
def TQ (d : Dt) (v : Value) : Prop := v = .string (bt (d.tabK d.keys.length))
section
variable {d : Dt}
theorem JK.cs (ok : DOk d) {i : Nat} {ρ : Env} (h : JK d i ρ) (hG : (Gd d).at ρ) : CRel ρ TK15.cs := by
  have e37 : (IT.var 37).den ρ = some ((d.keys.length : Nat) : Int) := pin hG (by simp [pins])
  have := keys_len ok
  have := h.pos
  exact CRel_app.2 ⟨cs9_ok h.i9 e37 h.le, qD e37 (litD 1) (by simp [intCmp]; omega) (qD e37 (litD 100) (by simp [intCmp]; omega) c0)⟩
theorem sp15_ok (ok : DOk d) (hl : d.kl = .row) (hC : Cd d) {w : World} (hT : TabW w) : CallOk Tryd.prog ⟨w, [], Gd d⟩ sp15 := by
  refine spLH_ok (fun p hp => ?_) (orH_ok (hkLk_ok rfl) (hkLn_ok rfl))
  simp only [List.mem_cons, List.not_mem_nil, or_false] at hp
  rcases hp with rfl | rfl | rfl | rfl | rfl | rfl
  · exact spOf_ok fun _ _ _ _ _ h => h.2.1
  · exact spSt13_ok ok hl rfl
  · exact spOps_ok ok hl rfl
  · exact spKey_ok ok hC rfl
  · exact spLine_ok ok rfl fun hh s l h1 h2 h3 => line27 (TabW.of hT rfl hh) h1 h2 h3
  · exact spName_ok rfl name29
theorem loopK (ok : DOk d) (hl : d.kl = .row) (hC : Cd d) {w : World} (hT : TabW w) : ∀ (_ : Unit) ρ, (∃ i, JK d i ρ) → ∀ todo a w1, todo = .inLoop (lb Tryd.f15 1) :: lq Tryd.f15 1 ∨ todo = .code (.loop (lb Tryd.f15 1)) :: lq Tryd.f15 1 → SRel ⟨w, [], Gd d⟩ ρ (TK15.st todo) a w1 → Goes Tryd.prog 15 (fun v w' => TQ d v ∧ Framed w w') todo a w1 :=
  scanT (β := ⟨w, [], Gd d⟩) (sp := sp15) (f := 15) (fn := Tryd.f15) (j := 1) (Ts := t15) (T := fun (_ : Unit) => TK15) (sp15_ok ok hl hC hT) rfl (Q := TQ d) (fun _ ρ => ∃ i, JK d i ρ) (fun _ ρ => ((d.keys.length : Int) - ρ.I 9).toNat) fun _ ρ ⟨i, j⟩ hG hcs ih => by
    have hi := j.le
    have hk := keys_len ok
    have e37 : (IT.var 37).den ρ = some ((d.keys.length : Nat) : Int) := pin hG (by simp [pins])
    by_cases hlt : i < d.keys.length
    · have e9 : at9.den ρ = some (i : Int) := varD j.i9
      have e38 : (IT.var 38).den ρ = some (encL d.keys) := pin hG (by simp [pins])
      have ek : kyT.den ρ = some (d.keys.getD i 0) := el_den e38 e9
      obtain ⟨h0, h15⟩ := keys_ran hC hlt
      have kx : ∀ {ρ' : Env}, JK d i ρ' → (Gd d).at ρ' → keyX.den ρ' = bt (d.tabK i ++ (nameT (d.keys.getD i 0).toNat ++ d.lineS 2 (d.keys.getD i 0))) := fun {ρ'} j' hG' => by
        have e9' : at9.den ρ' = some (i : Int) := varD j'.i9
        have e38' : (IT.var 38).den ρ' = some (encL d.keys) := pin hG' (by simp [pins])
        have ek' : kyT.den ρ' = some (d.keys.getD i 0) := el_den e38' e9'
        have ep : kyP.den ρ' = d.keys.getD i 0 := Option.some.inj ((IT.toP_den (ρ := ρ') (show kyT.toP = some kyP from rfl)).symm.trans ek')
        have := catD (s7_den j'.s7) (catD (fnN_den hG' kyP (.lit 0)) (fnL_den ok hG' (.lit 2) kyP))
        rw [ep] at this
        exact this
      have hlen : (d.tabK i ++ (nameT (d.keys.getD i 0).toNat ++ d.lineS 2 (d.keys.getD i 0))).length ≤ 1000000 := by
        have := tabK_len ok (i + 1)
        unfold Dt.tabK at this; omega
      refine ⟨_, _, CRel_app.2 ⟨lt9_ok j.i9 e37 (decide_eq_true hlt), CRel_app.2 ⟨qD ek (litD 0) (by simp only [intCmp, Option.some.injEq, decide_eq_true_eq]; exact h0) (qD ek (litD 15) (by simp only [intCmp, Option.some.injEq, decide_eq_true_eq]; exact h15) c0), CRel_app.2 ⟨fE_ok hG (k := .lit 2) (kz := 2) rfl ek (decide_eq_false (keys_steps hC hlt)), fSz_ok (kx j hG) hlen⟩⟩⟩, k15_y, Go.Vm.one (nextS rfl fun ρ' hle hG' => ?_)⟩
      have j' := j.of_le hle
      have jn : JK d (i + 1) (sKy.app ρ') := ⟨sbI (t := up9) rfl (upD (varD j'.i9) (by omega)), hlt, j.pos, by
        show keyX.den ρ' = _
        rw [kx j' hG']; rfl⟩
      have hGn : (Gd d).at (sKy.app ρ') := gKeep rfl hG'
      exact ⟨hGn, jn.cs ok hGn, fun a w' r => ih () _ (by rw [jn.i9, j.i9]; omega) ⟨_, jn⟩ _ a w' (.inl rfl) r⟩
    · obtain rfl : i = d.keys.length := by omega
      refine ⟨_, _, lt9_ok j.i9 e37 (decide_eq_false hlt), k15_e, Go.Vm.one (retS (z := .string (bt (d.tabK d.keys.length))) (fun ρ' hle => ?_) rfl)⟩
      have := (j.of_le hle).s7
      simp only [s7, AVal.den, s7_den this]
/-- THE PROGRAM'S TABLE. -/
theorem table15 (ok : DOk d) (hl : d.kl = .row) (hC : Cd d) {ρ : Env} {w : World} (hT : TabW w) {xs : List Value} (hr : HRel ⟨w, [], Gd d⟩ ρ (ofP (roH (EL .row))) 480 w) (hx : AVal.denL ρ [SL .row] = some xs) :
    Calls Tryd.prog 15 xs.toArray w fun e w' => e = .returned (.string (bt (d.tabK d.keys.length))) ∧ Framed w w' := by
  have hsp := sp15_ok ok hl hC hT
  have loop := scanT (β := ⟨w, [], Gd d⟩) (sp := sp15) (f := 15) (fn := Tryd.f15) (j := 0) (Ts := t15) (T := TW15) hsp rfl (Q := TQ d) (fun i ρ => i ≤ 4 ∧ ρ.S 7 = bt (d.tabA i)) (fun i _ => 4 - i) fun i ρ ⟨hi, h7⟩ hG hcs ih => by
    by_cases hlt : i < 4
    · have ek : (kW i).den ρ = some ((i : Int) + 1) := rfl
      by_cases hst : d.steps ((i : Int) + 1) (-1) = []
      · refine ⟨_, _, fE_ok hG ek (litD (-1)) (decide_eq_true hst), w15_n i hlt, Go.Vm.one (nextS (t15_at i hlt) fun ρ' hle hG' => ?_)⟩
        have hGn : (Gd d).at (sWn.app ρ') := gKeep rfl hG'
        refine ⟨hGn, csL_row ok hl hGn, fun a w' r => ih (i + 1) _ (by omega) ⟨hlt, ?_⟩ _ a w' (.inl rfl) r⟩
        show ρ'.S 7 = _
        rw [hle.s, h7, tabA_no hst]
      · have hx := wordX_den ok hG h7
        have hlen : (d.tabA i ++ (wordT i ++ d.lineS ((i : Int) + 1) (-1))).length ≤ 1000000 := by
          have := tabA_len ok (i + 1)
          rw [tabA_yes hst] at this; omega
        refine ⟨_, _, CRel_app.2 ⟨fE_ok hG ek (litD (-1)) (decide_eq_false hst), fSz_ok hx hlen⟩, w15_y i hlt, Go.Vm.one (nextS (t15_at i hlt) fun ρ' hle hG' => ?_)⟩
        have hGn : (Gd d).at ((sWy i).app ρ') := gKeep rfl hG'
        refine ⟨hGn, csL_row ok hl hGn, fun a w' r => ih (i + 1) _ (by omega) ⟨hlt, ?_⟩ _ a w' (.inl rfl) r⟩
        show (wordX i).den ρ' = _
        rw [wordX_den ok hG' (by rw [hle.s]; exact h7), tabA_yes hst]
    · obtain rfl : i = 4 := by omega
      by_cases hk : d.keys.length = 0
      · refine ⟨_, _, c1 (by rw [kE_den hG, decide_eq_true hk]) c0, w15_en, Go.Vm.one (nextS rfl fun ρ' hle hG' => ?_)⟩
        have hGn : (Gd d).at (sN0.app ρ') := gKeep rfl hG'
        refine ⟨hGn, c0, fun a w' r => ?_⟩
        refine scanT (β := ⟨w, [], Gd d⟩) (sp := sp15) (f := 15) (fn := Tryd.f15) (j := 1) (Ts := t15) (T := fun (_ : Unit) => TN15) hsp rfl (Q := TQ d) (fun _ ρ => ρ.S 7 = bt (d.tabA 4)) (fun _ _ => 0) (fun _ ρ h7 hG _ _ => ?_) () _ ?_ _ a w' (.inr rfl) r
        · refine ⟨[], _, c0, k15_n, Go.Vm.one (retS (z := .string (bt (d.tabA 4))) (fun ρ' hle => ?_) ?_)⟩
          · have : ρ'.S 7 = bt (d.tabA 4) := by rw [hle.s]; exact h7
            simp only [s7, AVal.den, s7_den this]
          · unfold TQ
            rw [hk]; rfl
        · show ρ'.S 7 = _
          rw [hle.s]; exact h7
      · refine ⟨_, _, c1 (by rw [kE_den hG, decide_eq_false hk]) c0, w15_ey, Go.Vm.one (nextS rfl fun ρ' hle hG' => ?_)⟩
        have hGn : (Gd d).at (sK0.app ρ') := gKeep rfl hG'
        have jn : JK d 0 (sK0.app ρ') := ⟨rfl, Nat.zero_le _, by omega, by
          show ρ'.S 7 = _
          rw [hle.s]; exact h7⟩
        exact ⟨hGn, jn.cs ok hGn, fun a w' r => loopK ok hl hC hT () _ ⟨_, jn⟩ _ a w' (.inr rfl) r⟩
  refine toE (callT hsp rfl Tryd.func15 rfl w15_in hx hr (csL_row ok hl hr.g) (Go.Vm.one (nextS rfl fun ρ' hle hG' => ?_)))
  have hGn : (Gd d).at (sW0.app ρ') := gKeep rfl hG'
  exact ⟨hGn, csL_row ok hl hGn, fun a w' r => loop 0 _ ⟨by omega, rfl⟩ _ a w' (.inr rfl) r⟩
end
end Rt
end Go.Proofs.YtglghnfbkiondaaDoor
end

/-
  RankTables (17): the reference's table; both tables are one.
-/
section
namespace Go.Proofs.YtglghnfbkiondaaDoor
open Go.Vm Go.Vm.Rk Go.Vm.Mr
namespace Rt
open Rk

noncomputable def w16 (i : Nat) (c : Cs) (σ : Sub) : Prop := RHt sp16 16 Tryd.f16 0 t16 (TW16 i) c [.next (i + 2) (.inLoop (lb Tryd.f16 0) :: lq Tryd.f16 0) [] σ]
theorem w16_in : RCt sp16 16 Tryd.f16 t16 [SL .row] (ofP (roH (EL .row))) (csL .row) [.next 1 (.code (.loop (lb Tryd.f16 0)) :: lq Tryd.f16 0) [] sW0] := by unfold RCt; kernel_rfl
theorem w16_n0 : w16 0 (fE' (kW 0) (.lit (-1)) true) sWn := by unfold w16 RHt; kernel_rfl
theorem w16_n1 : w16 1 (fE' (kW 1) (.lit (-1)) true) sWn := by unfold w16 RHt; kernel_rfl
theorem w16_n2 : w16 2 (fE' (kW 2) (.lit (-1)) true) sWn := by unfold w16 RHt; kernel_rfl
theorem w16_n3 : w16 3 (fE' (kW 3) (.lit (-1)) true) sWn := by unfold w16 RHt; kernel_rfl
theorem w16_y0 : w16 0 (fE' (kW 0) (.lit (-1)) false ++ fSz (wordX 0)) (sWy 0) := by unfold w16 RHt; kernel_rfl
theorem w16_y1 : w16 1 (fE' (kW 1) (.lit (-1)) false ++ fSz (wordX 1)) (sWy 1) := by unfold w16 RHt; kernel_rfl
theorem w16_y2 : w16 2 (fE' (kW 2) (.lit (-1)) false ++ fSz (wordX 2)) (sWy 2) := by unfold w16 RHt; kernel_rfl
theorem w16_y3 : w16 3 (fE' (kW 3) (.lit (-1)) false ++ fSz (wordX 3)) (sWy 3) := by unfold w16 RHt; kernel_rfl
theorem w16_n : ∀ i, i < 4 → w16 i (fE' (kW i) (.lit (-1)) true) sWn := by
  intro i hi
  match i, hi with
  | 0, _ => exact w16_n0
  | 1, _ => exact w16_n1
  | 2, _ => exact w16_n2
  | 3, _ => exact w16_n3
theorem w16_y : ∀ i, i < 4 → w16 i (fE' (kW i) (.lit (-1)) false ++ fSz (wordX i)) (sWy i) := by
  intro i hi
  match i, hi with
  | 0, _ => exact w16_y0
  | 1, _ => exact w16_y1
  | 2, _ => exact w16_y2
  | 3, _ => exact w16_y3
theorem t16_at : ∀ i, i < 4 → t16[i + 2]? = some (TW16 (i + 1)) := by
  intro i hi
  match i, hi with
  | 0, _ => rfl
  | 1, _ => rfl
  | 2, _ => rfl
  | 3, _ => rfl
def sC0 : Sub := ⟨[(9, .lit 0)], [], [(7, .var 7)], [], [(0, 0)]⟩
def sCn : Sub := ⟨[(9, up9)], [], [(7, .var 7)], [], [(0, 0)]⟩
def sCy : Sub := ⟨[(9, up9)], [], [(7, codeX)], [], [(0, 0)]⟩
theorem w16_e : RHt sp16 16 Tryd.f16 0 t16 (TW16 4) [] [.next 0 (.code (.loop (lb Tryd.f16 1)) :: lq Tryd.f16 1) [] sC0] := by unfold RHt; kernel_rfl
theorem c16_n : RHt sp16 16 Tryd.f16 1 t16 TC16 (lt9 (.lit 15) true ++ fE' (.lit 2) at9 true) [.next 0 (.inLoop (lb Tryd.f16 1) :: lq Tryd.f16 1) [] sCn] := by unfold RHt; kernel_rfl
theorem c16_y : RHt sp16 16 Tryd.f16 1 t16 TC16 (lt9 (.lit 15) true ++ (fE' (.lit 2) at9 false ++ fSz codeX)) [.next 0 (.inLoop (lb Tryd.f16 1) :: lq Tryd.f16 1) [] sCy] := by unfold RHt; kernel_rfl
theorem c16_e : RHt sp16 16 Tryd.f16 1 t16 TC16 (lt9 (.lit 15) false) [.ret s7 []] := by unfold RHt; kernel_rfl
structure JC (d : Dt) (i : Nat) (ρ : Env) : Prop where
  i9 : ρ.I 9 = (i : Int)
  le : i ≤ 15
  s7 : ρ.S 7 = bt (d.tabC i)
theorem JC.of_le {d : Dt} {i : Nat} {ρ ρ' : Env} (h : JC d i ρ) (g : ρ.Le ρ') : JC d i ρ' := ⟨by rw [g.i]; exact h.i9, h.le, by rw [g.s]; exact h.s7⟩
def TQC (d : Dt) (v : Value) : Prop := v = .string (bt (d.tabC 15))
section
variable {d : Dt}
theorem JC.cs (ok : DOk d) (hl : d.kl = .row) {i : Nat} {ρ : Env} (h : JC d i ρ) (hG : (Gd d).at ρ) : CRel ρ TC16.cs :=
  CRel_app.2 ⟨cs9_ok h.i9 (litD ((15 : Nat) : Int)) h.le, csL_row ok hl hG⟩
theorem sp16_ok (ok : DOk d) (hl : d.kl = .row) {w : World} : CallOk Tryd.prog ⟨w, [], Gd d⟩ sp16 := by
  refine spL_ok (fun p hp => ?_)
  simp only [List.mem_cons, List.not_mem_nil, or_false] at hp
  rcases hp with rfl | rfl | rfl | rfl
  · exact spRef_ok fun _ _ _ _ _ h => h.2.1
  · exact spSt14_ok ok hl rfl
  · exact spLine_ok ok rfl fun _ s l h1 h2 h3 => line30 h1 h2 h3
  · exact spName_ok rfl name31
theorem tabC_yes {i : Nat} (h : d.steps 2 (i : Int) ≠ []) : d.tabC (i + 1) = d.tabC i ++ (nameT i ++ d.lineS 2 (i : Int)) := by
  rw [Dt.tabC, Dt.oneC, if_neg h]
theorem tabC_no {i : Nat} (h : d.steps 2 (i : Int) = []) : d.tabC (i + 1) = d.tabC i := by
  rw [Dt.tabC, Dt.oneC, if_pos h, List.append_nil]
theorem codeX_den (ok : DOk d) {ρ : Env} (hG : (Gd d).at ρ) {i : Nat} (h9 : ρ.I 9 = (i : Int)) (h : ρ.S 7 = bt (d.tabC i)) : codeX.den ρ = bt (d.tabC i ++ (nameT i ++ d.lineS 2 (i : Int))) := by
  have := catD (s7_den h) (catD (fnN_den hG (.var 9) (.lit 0)) (fnL_den ok hG (.lit 2) (.var 9)))
  simp only [PT.den, h9, Int.toNat_natCast] at this
  exact this
theorem loopC (ok : DOk d) (hl : d.kl = .row) {w : World} : ∀ (_ : Unit) ρ, (∃ i, JC d i ρ) → ∀ todo a w1, todo = .inLoop (lb Tryd.f16 1) :: lq Tryd.f16 1 ∨ todo = .code (.loop (lb Tryd.f16 1)) :: lq Tryd.f16 1 → SRel ⟨w, [], Gd d⟩ ρ (TC16.st todo) a w1 → Goes Tryd.prog 16 (fun v w' => TQC d v ∧ Framed w w') todo a w1 :=
  scanT (β := ⟨w, [], Gd d⟩) (sp := sp16) (f := 16) (fn := Tryd.f16) (j := 1) (Ts := t16) (T := fun (_ : Unit) => TC16) (sp16_ok ok hl) rfl (Q := TQC d) (fun _ ρ => ∃ i, JC d i ρ) (fun _ ρ => ((15 : Int) - ρ.I 9).toNat) fun _ ρ ⟨i, j⟩ hG hcs ih => by
    have hi := j.le
    have e9 : at9.den ρ = some (i : Int) := varD j.i9
    have e15 : (IT.lit 15).den ρ = some ((15 : Nat) : Int) := rfl
    by_cases hlt : i < 15
    · by_cases hst : d.steps 2 (i : Int) = []
      · refine ⟨_, _, CRel_app.2 ⟨lt9_ok j.i9 e15 (decide_eq_true hlt), fE_ok hG (k := .lit 2) (kz := 2) rfl e9 (decide_eq_true hst)⟩, c16_n, Go.Vm.one (nextS rfl fun ρ' hle hG' => ?_)⟩
        have j' := j.of_le hle
        have jn : JC d (i + 1) (sCn.app ρ') := ⟨sbI (t := up9) rfl (upD (varD j'.i9) (by omega)), hlt, by
          show ρ'.S 7 = _
          rw [j'.s7, tabC_no hst]⟩
        have hGn : (Gd d).at (sCn.app ρ') := gKeep rfl hG'
        exact ⟨hGn, jn.cs ok hl hGn, fun a w' r => ih () _ (by rw [jn.i9, j.i9]; omega) ⟨_, jn⟩ _ a w' (.inl rfl) r⟩
      · have hlen : (d.tabC i ++ (nameT i ++ d.lineS 2 (i : Int))).length ≤ 1000000 := by
          have := tabC_len ok (i + 1)
          rw [tabC_yes hst] at this; omega
        refine ⟨_, _, CRel_app.2 ⟨lt9_ok j.i9 e15 (decide_eq_true hlt), CRel_app.2 ⟨fE_ok hG (k := .lit 2) (kz := 2) rfl e9 (decide_eq_false hst), fSz_ok (codeX_den ok hG j.i9 j.s7) hlen⟩⟩, c16_y, Go.Vm.one (nextS rfl fun ρ' hle hG' => ?_)⟩
        have j' := j.of_le hle
        have jn : JC d (i + 1) (sCy.app ρ') := ⟨sbI (t := up9) rfl (upD (varD j'.i9) (by omega)), hlt, by
          show codeX.den ρ' = _
          rw [codeX_den ok hG' j'.i9 j'.s7, tabC_yes hst]⟩
        have hGn : (Gd d).at (sCy.app ρ') := gKeep rfl hG'
        exact ⟨hGn, jn.cs ok hl hGn, fun a w' r => ih () _ (by rw [jn.i9, j.i9]; omega) ⟨_, jn⟩ _ a w' (.inl rfl) r⟩
    · obtain rfl : i = 15 := by omega
      refine ⟨_, _, lt9_ok j.i9 e15 (decide_eq_false hlt), c16_e, Go.Vm.one (retS (z := .string (bt (d.tabC 15))) (fun ρ' hle => ?_) rfl)⟩
      have := (j.of_le hle).s7
      simp only [s7, AVal.den, s7_den this]
/-- THE REFERENCE's TABLE. -/
theorem table16 (ok : DOk d) (hl : d.kl = .row) {ρ : Env} {w : World} {xs : List Value} (hr : HRel ⟨w, [], Gd d⟩ ρ (ofP (roH (EL .row))) 480 w) (hx : AVal.denL ρ [SL .row] = some xs) :
    Calls Tryd.prog 16 xs.toArray w fun e w' => e = .returned (.string (bt (d.tabC 15))) ∧ Framed w w' := by
  have hsp := sp16_ok ok hl (w := w)
  have loop := scanT (β := ⟨w, [], Gd d⟩) (sp := sp16) (f := 16) (fn := Tryd.f16) (j := 0) (Ts := t16) (T := TW16) hsp rfl (Q := TQC d) (fun i ρ => i ≤ 4 ∧ ρ.S 7 = bt (d.tabA i)) (fun i _ => 4 - i) fun i ρ ⟨hi, h7⟩ hG hcs ih => by
    by_cases hlt : i < 4
    · have ek : (kW i).den ρ = some ((i : Int) + 1) := rfl
      by_cases hst : d.steps ((i : Int) + 1) (-1) = []
      · refine ⟨_, _, fE_ok hG ek (litD (-1)) (decide_eq_true hst), w16_n i hlt, Go.Vm.one (nextS (t16_at i hlt) fun ρ' hle hG' => ?_)⟩
        have hGn : (Gd d).at (sWn.app ρ') := gKeep rfl hG'
        refine ⟨hGn, csL_row ok hl hGn, fun a w' r => ih (i + 1) _ (by omega) ⟨hlt, ?_⟩ _ a w' (.inl rfl) r⟩
        show ρ'.S 7 = _
        rw [hle.s, h7, tabA_no hst]
      · have hx := wordX_den ok hG h7
        have hlen : (d.tabA i ++ (wordT i ++ d.lineS ((i : Int) + 1) (-1))).length ≤ 1000000 := by
          have := tabA_len ok (i + 1)
          rw [tabA_yes hst] at this; omega
        refine ⟨_, _, CRel_app.2 ⟨fE_ok hG ek (litD (-1)) (decide_eq_false hst), fSz_ok hx hlen⟩, w16_y i hlt, Go.Vm.one (nextS (t16_at i hlt) fun ρ' hle hG' => ?_)⟩
        have hGn : (Gd d).at ((sWy i).app ρ') := gKeep rfl hG'
        refine ⟨hGn, csL_row ok hl hGn, fun a w' r => ih (i + 1) _ (by omega) ⟨hlt, ?_⟩ _ a w' (.inl rfl) r⟩
        show (wordX i).den ρ' = _
        rw [wordX_den ok hG' (by rw [hle.s]; exact h7), tabA_yes hst]
    · obtain rfl : i = 4 := by omega
      refine ⟨[], _, c0, w16_e, Go.Vm.one (nextS rfl fun ρ' hle hG' => ?_)⟩
      have hGn : (Gd d).at (sC0.app ρ') := gKeep rfl hG'
      have jn : JC d 0 (sC0.app ρ') := ⟨rfl, Nat.zero_le _, by
        show ρ'.S 7 = _
        rw [hle.s, h7]; rfl⟩
      exact ⟨hGn, jn.cs ok hl hGn, fun a w' r => loopC ok hl () _ ⟨_, jn⟩ _ a w' (.inr rfl) r⟩
  refine toE (callT hsp rfl Tryd.func16 rfl w16_in hx hr (csL_row ok hl hr.g) (Go.Vm.one (nextS rfl fun ρ' hle hG' => ?_)))
  have hGn : (Gd d).at (sW0.app ρ') := gKeep rfl hG'
  exact ⟨hGn, csL_row ok hl hGn, fun a w' r => loop 0 _ ⟨by omega, rfl⟩ _ a w' (.inr rfl) r⟩
-- ONE TABLE
/-- The keys are the codes that have steps, in order. -/
theorem keys_filter (hC : Cd d) : d.keys = (List.range 15).filterMap fun c => if d.steps 2 ((c : Nat) : Int) = [] then none else some ((c : Nat) : Int) := by
  have hmem : ∀ k : Int, k ∈ d.ents.map (·.1) ↔ (0 ≤ k ∧ k < 15 ∧ d.steps 2 k ≠ []) := fun k => by
    constructor
    · intro h
      obtain ⟨p, hp, rfl⟩ := List.mem_map.1 h
      obtain ⟨h0, h1⟩ := ents_key hC p hp
      refine ⟨h0, h1, fun e => ?_⟩
      have := d.ents_get p.1 h0
      rw [if_pos e] at this
      exact getE_none this p hp rfl
    · rintro ⟨h0, _, h2⟩
      have := d.ents_get k h0
      rw [if_neg h2] at this
      exact List.mem_map.2 ⟨_, getE_mem this, rfl⟩
  have hR : ((List.range 15).filterMap fun c => if d.steps 2 ((c : Nat) : Int) = [] then none else some ((c : Nat) : Int)).Pairwise fun a b => a < b := by
    refine List.Pairwise.filterMap _ (fun a a' hlt b hb b' hb' => ?_) (List.pairwise_lt_range (n := 15))
    split at hb
    · cases hb
    · split at hb'
      · cases hb'
      · cases hb; cases hb'; omega
  have hp : (d.ents.map (·.1)).Perm ((List.range 15).filterMap fun c => if d.steps 2 ((c : Nat) : Int) = [] then none else some ((c : Nat) : Int)) := by
    refine (List.perm_ext_iff_of_nodup d.ents_nodup (hR.imp fun h e => by omega)).2 fun k => ?_
    rw [hmem]
    constructor
    · rintro ⟨h0, h1, h2⟩
      obtain ⟨c, rfl⟩ : ∃ c : Nat, k = (c : Int) := ⟨k.toNat, by omega⟩
      exact List.mem_filterMap.2 ⟨c, List.mem_range.2 (by omega), by rw [if_neg h2]⟩
    · intro h
      obtain ⟨c, hc, he⟩ := List.mem_filterMap.1 h
      have := List.mem_range.1 hc
      split at he
      · cases he
      · rename_i h2
        cases he
        exact ⟨by omega, by omega, h2⟩
  rw [Dt.keys, sortL_eq hp]
  exact (sortL_uniq (List.Perm.refl _) (hR.imp fun h => by omega)).symm
def tabL (d : Dt) (t : List UInt8) : List Int → List UInt8
  | [] => t
  | k :: r => tabL d (t ++ (nameT k.toNat ++ d.lineS 2 k)) r
theorem tabL_snoc (d : Dt) : ∀ (t : List UInt8) (l : List Int) (k : Int), tabL d t (l ++ [k]) = tabL d t l ++ (nameT k.toNat ++ d.lineS 2 k)
  | _, [], _ => rfl
  | t, a :: r, k => tabL_snoc d (t ++ (nameT a.toNat ++ d.lineS 2 a)) r k
theorem tabK_take (i : Nat) (h : i ≤ d.keys.length) : d.tabK i = tabL d (d.tabA 4) (d.keys.take i) := by
  induction i with
  | zero => rfl
  | succ i ih => rw [Dt.tabK, ih (by omega), take_snoc (by omega), tabL_snoc]
theorem tabC_range (c : Nat) : d.tabC c = tabL d (d.tabA 4) ((List.range c).filterMap fun c => if d.steps 2 ((c : Nat) : Int) = [] then none else some ((c : Nat) : Int)) := by
  induction c with
  | zero => rfl
  | succ c ih =>
    rw [List.range_succ, List.filterMap_append, Dt.tabC, ih, Dt.oneC]
    by_cases h : d.steps 2 (c : Int) = []
    · rw [if_pos h, List.append_nil]
      simp only [List.filterMap_cons, if_pos h, List.filterMap_nil, List.append_nil]
    · rw [if_neg h]
      simp only [List.filterMap_cons, if_neg h, List.filterMap_nil]
      rw [tabL_snoc, Int.toNat_natCast]
theorem tab_one (hC : Cd d) : d.tabK d.keys.length = d.tabC 15 := by
  rw [tabK_take _ (Nat.le_refl _), List.take_length, tabC_range, ← keys_filter hC]
end
end Rt
end Go.Proofs.YtglghnfbkiondaaDoor
end
