/-
  LinearSearch (18): the reference's Any: plainly; its runs.
-/
import Derived.Test.YtpgonpjakllnjaaLs17
section
namespace Go.Proofs.Ytpgonpjakllnjaa
open Go.Vm Go.Vm.Md Lm Lt
namespace Ls

-- WHAT IS WRONG DOES NOT HANG ON ROOM
theorem stO_q {kl ko kl' ko' : Kd} {x y : Int} {n m q q' : Nat} : ∀ i, Dt.stO ⟨kl, ko, x, y, n, m, q⟩ i = Dt.stO ⟨kl', ko', x, y, n, m, q'⟩ i
  | 0 => rfl
  | i + 1 => by
    have ih := stO_q (kl := kl) (ko := ko) (kl' := kl') (ko' := ko') (x := x) (y := y) (n := n) (m := m) (q := q) (q' := q') i
    unfold Dt.stO
    rw [ih]; rfl
theorem wrong_q {kl ko kl' ko' : Kd} {x y : Int} {n m q q' : Nat} : Dt.wrong ⟨kl, ko, x, y, n, m, q⟩ = Dt.wrong ⟨kl', ko', x, y, n, m, q'⟩ := by
  have h6 : Dt.w6 ⟨kl, ko, x, y, n, m, q⟩ = Dt.w6 ⟨kl', ko', x, y, n, m, q'⟩ := by
    funext i
    unfold Dt.w6 Dt.anO
    rw [stO_q (kl' := kl') (ko' := ko') (q' := q')]; rfl
  unfold Dt.wrong
  rw [h6]; rfl
def dA (x : Int) (n : Nat) (O : List Int) : Dt := ⟨.row, .row, x, encL O, n, O.length, 0⟩
def wrP (x : Int) (n : Nat) (O : List Int) : Int := (dA x n O).wrong
def canP (x : Int) (n : Nat) (O : List Int) (i : Nat) : Bool := decide ((dA x n O).c (i : Int) 1 = 2) && (!(dA x n O).refd (i : Int) && !hasL O (i : Int))
/-- Is there a right order that begins so? -/
def anyP (x : Int) (n : Nat) : Nat → List Int → Bool
  | 0, O => decide (wrP x n O = 0)
  | f + 1, O => decide (wrP x n O = 0) || anyT (fun i => canP x n O i && anyP x n f (O ++ [(i : Int)])) n
def miss (O : List Int) : Nat → Nat
  | 0 => 0
  | k + 1 => miss O k + (if hasL O (k : Int) = true then 0 else 1)
theorem hasL_iff {O : List Int} {v : Int} : hasL O v = true ↔ v ∈ O := by
  constructor
  · intro h
    apply Classical.byContradiction
    intro hn
    have : hasL O v = false := anyT_of fun i hi => by
      rw [decide_eq_false_iff_not]
      intro he
      rw [List.getD_eq_getElem?_getD, List.getElem?_eq_getElem hi, Option.getD_some] at he
      exact hn (he ▸ List.getElem_mem _)
    rw [this] at h; cases h
  · intro h
    obtain ⟨i, hi, he⟩ := List.getElem_of_mem h
    refine anyT_true hi ?_
    rw [decide_eq_true_eq, List.getD_eq_getElem?_getD, List.getElem?_eq_getElem hi, Option.getD_some]; exact he
theorem miss_le (O : List Int) (v : Int) : ∀ k, miss (O ++ [v]) k ≤ miss O k
  | 0 => Nat.le_refl _
  | k + 1 => by
    have ih := miss_le O v k
    unfold miss
    by_cases h : hasL O (k : Int) = true
    · have h2 : hasL (O ++ [v]) (k : Int) = true := hasL_iff.2 (List.mem_append_left _ (hasL_iff.1 h))
      rw [if_pos h, if_pos h2]; omega
    · rw [if_neg h]
      split <;> omega
theorem miss_lt {O : List Int} {i : Nat} (h : hasL O (i : Int) = false) : ∀ {k : Nat}, i < k → miss (O ++ [(i : Int)]) k + 1 ≤ miss O k
  | k + 1, hk => by
    unfold miss
    rcases Nat.lt_or_ge i k with h1 | h1
    · have ih := miss_lt h h1
      by_cases h2 : hasL O (k : Int) = true
      · have h3 : hasL (O ++ [(i : Int)]) (k : Int) = true := hasL_iff.2 (List.mem_append_left _ (hasL_iff.1 h2))
        rw [if_pos h2, if_pos h3]; omega
      · rw [if_neg h2]
        split <;> omega
    · obtain rfl : i = k := by omega
      have ih := miss_le O (i : Int) i
      have h3 : hasL (O ++ [(i : Int)]) (i : Int) = true := hasL_iff.2 (by simp)
      rw [if_pos h3, if_neg (by rw [h]; decide)]; omega
theorem miss_nil : ∀ k, miss [] k = k
  | 0 => rfl
  | k + 1 => by
    unfold miss
    rw [miss_nil k]; rfl
-- THE MACHINE
def g90 (x : Int) (n f : Nat) (O : List Int) (i _ : Int) : Int := if anyP x n f (O ++ [i]) = true then 1 else 0
def Ga (d : Dt) (g : Int → Int → Int) : GP := fun I B S V F => Gd d I B S V F ∧ F 90 = g
theorem gaKeep {d : Dt} {g : Int → Int → Int} {ρ : Env} {σ : Sub} (hs : (σ.I.all fun p => Nat.blt p.1 30) = true) (h : (Ga d g).at ρ) : (Ga d g).at (σ.app ρ) := ⟨gKeep hs h.1, h.2⟩
theorem SpGOk.mapG {w0 : World} {own : List Nat} {G G' : GP} {g : FuncId} {F : SpG} (h : SpGOk Try.prog ⟨w0, own, G⟩ g F) (hG : ∀ I B S V F, G' I B S V F → G I B S V F) : SpGOk Try.prog ⟨w0, own, G'⟩ g F := by
  intro args H nl cs ls ρ w xs hr hx hh hc
  refine (h args H nl cs ls ρ w xs hr hx (hh.mapG (hG _ _ _ _ _ hh.g)) hc).mono fun e w' ⟨v, he, u, H', nl', cs', ρ', hm, hle, hu, hh', hc'⟩ => ?_
  exact ⟨v, he, u, H', nl', cs', ρ', hm, hle, hu, hh'.mapG (GP.mono hle hh.g), hc'⟩
def nA : Kd → IT
  | .row => .bin .add .i64 (.var 38) (.lit 1)
  | _ => .lit 1
def bA (c : Nat) : Kd → ABlk
  | .row => .arr (.snoc (.code [.i64] (.var 37)) [iV 9]) [.i64] 3 (nA .row) (.lit 0) (some (.nv c))
  | _ => .cells [iV 9] 3 (some (c, 1))
def eG (b : Bool) : Cs := [q9 .gtr (rT at9 8) (.lit (-1)) b]
def haT : BT := .cmp .eql (.fn 49 (.var 38) at9) (.lit 1)
def hasC (z : Kd) : Cs := match z with
  | .row => [(haT, false)]
  | _ => []
def rcT : BT := .cmp .eql (.fn 90 at9 (.lit 0)) (.lit 1)
def spAny (z : Kd) : SpG := fun args H nl cs => match args with
  | [a, .slice l (.lit (.ofNat 0)) n (.nv c)] => match H.get l with
    | some k => cond (AVal.beq a (SL .row) && (IT.beq n (nA z) && (ABlk.beq k.k (bA c z) && (hasE [(0, bL)] H && (lookC [q9 .lss at9 (.var 36) true, q9 .geq at9 (.lit 0) true, (rcT, true)] cs && lookC (hasC z) cs))))) (some [.ret (.bool (.lit true)) H nl cs])
      (cond (AVal.beq a (SL .row) && (IT.beq n (nA z) && (ABlk.beq k.k (bA c z) && (hasE [(0, bL)] H && (lookC [q9 .lss at9 (.var 36) true, q9 .geq at9 (.lit 0) true, (rcT, false)] cs && lookC (hasC z) cs))))) (some [.ret (.bool (.lit false)) H nl cs]) none)
    | none => none
  | _ => none
def TA (z : Kd) : Tpl := ⟨[(0, SL .row), (1, SO z), (11, SL .row), (12, iV 36), (13, iV 9)], 39, Lt.roH (EE .row z), 200, cs9 (.var 36) ++ csE .row z, 3⟩
def spA9 : Kd → CallF
  | .row => spL [(8, spWr .row .row), (23, spHas), (9, spAny .row)]
  | z => spL [(8, spWr .row z), (9, spAny z)]
def spA8 (k z : Kd) : CallF := spL [(8, spWr k z)]
noncomputable def L9 : Code := lb Try.f9 0
noncomputable def Q9 : List Item := lq Try.f9 0
noncomputable def RA (z : Kd) (c : Cs) (l : LS) : Prop := (run Try.prog [] (spA9 z) 4000 (PL.only [4]) 9 ((⟨(TA z).tm, (TA z).nt, (TA z).H, (TA z).nl, c ++ (TA z).cs, (TA z).dep⟩ : Tpl).st (.code L9 :: .inLoop L9 :: Q9))).map (·.filterMap (sumD gM [TA z])) = some [l]
noncomputable def RAi (pl : PL) (k z : Kd) (c : Cs) (l : LS) : Prop := (run Try.prog [] (spA8 k z) 4000 pl 9 (entry Try.f9 (Try.f9.body.getD .ret) [SL k, SO z] (ofP (Lt.roH (EE k z))) 100 (csE k z ++ c))).map (·.filterMap (sumD gM [TA z])) = some [l]
def nOn : Kd → List (Nat × Nat)
  | .row => [(0, 0), (1, 1)]
  | _ => [(0, 0)]
def sA (z : Kd) (t : IT) : Sub := ⟨[(9, t)], [], [], [], nOn z⟩
def goA (b : Bool) : Cs := [q9 .lss at9 (.var 36) true, q9 .neq (rT at9 1) (.lit 2) b]
def wrC (b : Bool) : Cs := [q9 .eql (.var 45) (.lit 0) b]
theorem a_yes (z : Kd) (h : z ≠ .zero) : RAi (PL.only [4]) .row z (wrC true) (.ret (.bool (.lit true)) []) := by unfold RAi; cases z <;> first | exact absurd rfl h | kernel_rfl
theorem a_in (z : Kd) (h : z ≠ .zero) : RAi (PL.only [4]) .row z (wrC false) (.next 0 (.code (.loop L9) :: Q9) [] (sA z (.lit 0))) := by unfold RAi; cases z <;> first | exact absurd rfl h | kernel_rfl
theorem a_end (z : Kd) (h : z ≠ .zero) : RA z [q9 .lss at9 (.var 36) false] (.ret (.bool (.lit false)) []) := by unfold RA; cases z <;> first | exact absurd rfl h | kernel_rfl
theorem a_kind (z : Kd) (h : z ≠ .zero) : RA z (goA true) (.next 0 (.inLoop L9 :: Q9) [] (sA z up9)) := by unfold RA; cases z <;> first | exact absurd rfl h | kernel_rfl
theorem a_A (z : Kd) (h : z ≠ .zero) : RA z (goA false ++ (fA at9 ++ eG true)) (.next 0 (.inLoop L9 :: Q9) [] (sA z up9)) := by unfold RA; cases z <;> first | exact absurd rfl h | kernel_rfl
theorem a_B (z : Kd) (h : z ≠ .zero) : RA z (goA false ++ (fB at9 ++ eG true)) (.next 0 (.inLoop L9 :: Q9) [] (sA z up9)) := by unfold RA; cases z <;> first | exact absurd rfl h | kernel_rfl
theorem a_hC : RA .row (goA false ++ ((fC at9 ++ eG true) ++ [(haT, true)])) (.next 0 (.inLoop L9 :: Q9) [] (sA .row up9)) := by unfold RA; kernel_rfl
theorem a_hD : RA .row (goA false ++ ((fD at9 ++ eG false) ++ [(haT, true)])) (.next 0 (.inLoop L9 :: Q9) [] (sA .row up9)) := by unfold RA; kernel_rfl
theorem a_yC (z : Kd) (h : z ≠ .zero) : RA z (goA false ++ ((fC at9 ++ eG true) ++ (hasC z ++ [(rcT, true)]))) (.ret (.bool (.lit true)) []) := by unfold RA; cases z <;> first | exact absurd rfl h | kernel_rfl
theorem a_yD (z : Kd) (h : z ≠ .zero) : RA z (goA false ++ ((fD at9 ++ eG false) ++ (hasC z ++ [(rcT, true)]))) (.ret (.bool (.lit true)) []) := by unfold RA; cases z <;> first | exact absurd rfl h | kernel_rfl
theorem a_nC (z : Kd) (h : z ≠ .zero) : RA z (goA false ++ ((fC at9 ++ eG true) ++ (hasC z ++ [(rcT, false)]))) (.next 0 (.inLoop L9 :: Q9) [] (sA z up9)) := by unfold RA; cases z <;> first | exact absurd rfl h | kernel_rfl
theorem a_nD (z : Kd) (h : z ≠ .zero) : RA z (goA false ++ ((fD at9 ++ eG false) ++ (hasC z ++ [(rcT, false)]))) (.next 0 (.inLoop L9 :: Q9) [] (sA z up9)) := by unfold RA; cases z <;> first | exact absurd rfl h | kernel_rfl
end Ls
end Go.Proofs.Ytpgonpjakllnjaa
end

/-
  LinearSearch (19): the reference's Any, of any history and order.
-/
section
namespace Go.Proofs.Ytpgonpjakllnjaa
open Go.Vm Go.Vm.Md Lm Lt
namespace Ls

def AnyC (x : Int) (n f : Nat) : Prop := ∀ (w : World) (O : List Int) (v0 vo : Value) (b0 o0 c0 : Nat), n ≤ 60 → miss O n ≤ f → O.length + f ≤ 60 → AVr w ksR v0 n b0 o0 c0 (decL x) →
  (vo = .slice none 0 0 ∧ O = [] ∨ ∃ b1 o1 q, O.length ≤ q ∧ AVr w [.i64] vo O.length b1 o1 q O) → Calls Try.prog 9 #[v0, vo] w fun e w' => e = .returned (.bool (anyP x n (f + 1) O)) ∧ Framed w w'
section
variable {x : Int} {n f q : Nat} {O : List Int} {z : Kd} {ρ : Env} {w : World}
def dZ (z : Kd) (x : Int) (n : Nat) (O : List Int) (q : Nat) : Dt := ⟨.row, z, x, encL O, n, O.length, q⟩
theorem has_eq (i : Int) : (dZ z x n O q).hasN O.length i = hasL O i := by
  unfold Dt.hasN hasL
  congr 1
  funext j
  show decide ((decL (encL O)).getD j 0 = i) = _
  rw [decL_encL]
/-- The new order's row. -/
theorem bA_in {g : Int → Int → Int} (hg : (Ga (dZ z x n O q) g).at ρ) (hz : z ≠ .row → O = []) (hl : O.length ≤ 60) {t : Nat} (h9 : ρ.I 9 = (t : Int)) {l b c : Nat} {o : Obj} {vo : Value} {rw0 : Bool} (hN : ρ.N l = some b) (ho : w.heap[b]? = some o) (h : (bA c z).rel ρ rw0 o) (hvo : (AVal.slice l (.lit 0) (nA z) (.nv c)).den ρ = some vo) :
    ∃ cap, (O ++ [(t : Int)]).length ≤ cap ∧ AVr w [.i64] vo (O ++ [(t : Int)]).length b 0 cap (O ++ [(t : Int)]) := by
  have e9 : AVal.denL ρ [iV 9] = some [.int .i64 (t : Int)] := denL1 (by simp only [iV, AVal.den, IT.den, h9, Option.map_some])
  have small : ∀ {cc : Array Value} {fr : Nat × Nat} {el : TypeId} {cap : Nat}, z ≠ .row → o = .cells cc el fr → [Value.int .i64 (t : Int)] <+: cc.toList → cc.size = cap → ρ.N c = some cap → (nA z).den ρ = some ((1 : Nat) : Int) → ∃ cap, (O ++ [(t : Int)]).length ≤ cap ∧ AVr w [.i64] vo (O ++ [(t : Int)]).length b 0 cap (O ++ [(t : Int)]) := fun {cc fr el cap} hne hoo hp hs hNc hn => by
    rw [hz hne]
    have h1 := hp.length_le
    rw [Array.length_toList] at h1
    refine ⟨cap, by simp at h1 ⊢; omega, Option.some.inj (hvo.symm.trans (den_slice_of hN rfl hn (nvD hNc))), by simp, by simp, cc, fr, el, by rw [ho, hoo], Nat.zero_le _, ?_⟩
    rw [List.drop_zero, rowOf1]; exact hp
  cases z with
  | row =>
    obtain ⟨ys, cc, fr, el, m, b0, rfl, _, hd, hoff, ⟨_, hp⟩, _, _, ⟨cap, hcap, hroom⟩, _⟩ := h
    obtain rfl : b0 = 0 := by have := Option.some.inj hoff; exact (Int.ofNat.inj this).symm
    have e37 : (IT.var 37).den ρ = some (encL O) := pY hg.1
    have e38 : (IT.var 38).den ρ = some (O.length : Int) := pM hg.1
    have e1 : (nA .row).den ρ = some ((O.length + 1 : Nat) : Int) := upD e38 (by omega)
    have e2 : (AT.code [.i64] (.var 37)).den ρ = some (rowOf [.i64] O) := by simp only [AT.den, e37, Option.map_some, decL_encL]
    simp only [AT.den] at e2
    simp only [AT.den, e2, e9, Option.some.injEq] at hd
    subst hd
    rw [List.drop_zero, rowOf1] at hp
    have hs : cc.size = cap := by have : cc.size - 0 = cap * 1 := hroom; omega
    have h1 := hp.length_le
    rw [List.length_append, List.length_map, Array.length_toList] at h1
    simp only [List.length_singleton] at h1
    have h1' : O.length + 1 ≤ cap := by rw [← hs]; exact h1
    refine ⟨cap, by rw [List.length_append]; simp only [List.length_singleton]; omega, ?_, by rw [List.length_append]; simp only [List.length_singleton]; omega, by simp, cc, fr, el, ho, Nat.zero_le _, ?_⟩
    · rw [List.length_append]
      exact Option.some.inj (hvo.symm.trans (den_slice_of hN rfl e1 hcap))
    · rw [List.drop_zero, rowOf1, List.map_append]; exact hp
  | nil =>
    obtain ⟨xs, cc, fr, hoo, hd, hp, ⟨_, cap, hN2, hsz⟩, _⟩ := h
    rw [e9] at hd; cases hd
    exact small (by simp) hoo hp (by omega) hN2 rfl
  | zero =>
    obtain ⟨xs, cc, fr, hoo, hd, hp, ⟨_, cap, hN2, hsz⟩, _⟩ := h
    rw [e9] at hd; cases hd
    exact small (by simp) hoo hp (by omega) hN2 rfl
theorem spAny_ok {w0 : World} (hn1 : 1 ≤ n) (hn60 : n ≤ 60) (hlx : (decL x).length = n * 16) (hz : z ≠ .row → O = []) (hm : miss O n ≤ f) (hl : O.length + f ≤ 60) (ih : ∀ f', f' + 1 = f → AnyC x n f') : SpGOk Try.prog ⟨w0, [], Ga (dZ z x n O q) (g90 x n f O)⟩ 9 (spAny z) := by
  intro args H nl cs ls ρ w xs hr hx hh hc
  have hg : (Ga (dZ z x n O q) (g90 x n f O)).at ρ := hh.g
  unfold spAny at hr
  split at hr
  rotate_left
  · cases hr
  rename_i a l nn c
  split at hr
  rotate_left
  · cases hr
  rename_i k hk
  have key : ∀ b : Bool, (AVal.beq a (SL .row) && (IT.beq nn (nA z) && (ABlk.beq k.k (bA c z) && (hasE [(0, bL)] H && (lookC [q9 .lss at9 (.var 36) true, q9 .geq at9 (.lit 0) true, (rcT, b)] cs && lookC (hasC z) cs))))) = true → ls = [.ret (.bool (.lit b)) H nl cs] →
      Calls Try.prog 9 xs.toArray w (fun e w' => ∃ v, e = .returned v ∧ ∃ u H' nl' cs' ρ', Leaf.ret u H' nl' cs' ∈ ls ∧ ρ.Le ρ' ∧ u.den ρ' = some v ∧ HRel ⟨w0, [], Ga (dZ z x n O q) (g90 x n f O)⟩ ρ' H' nl' w' ∧ CRel ρ' cs') := fun b hb hls => by
    subst hls
    simp only [Bool.and_eq_true] at hb
    obtain ⟨h1, h2, h3, h4, h5, h6⟩ := hb
    obtain rfl := AVal.beq_eq _ _ h1
    obtain rfl := IT.beq_eq h2
    have cf := lookC_ok h5 hc
    have a1 := cf _ List.mem_cons_self
    have a2 := cf _ (List.mem_cons_of_mem _ List.mem_cons_self)
    have a3 := cf (rcT, b) (List.mem_cons_of_mem _ (List.mem_cons_of_mem _ List.mem_cons_self))
    have e36 : (IT.var 36).den ρ = some (n : Int) := pN hg.1
    have e9' : at9.den ρ = some (ρ.I 9) := varD rfl
    simp only [q9] at a1 a2
    rw [cmpD e9' e36] at a1
    rw [cmpD e9' (litD 0)] at a2
    simp only [intCmp, Option.some.injEq, decide_eq_true_eq] at a1 a2
    obtain ⟨t, ht⟩ : ∃ t : Nat, ρ.I 9 = (t : Int) := ⟨(ρ.I 9).toNat, by omega⟩
    have htn : t < n := by omega
    have e9 : at9.den ρ = some (t : Int) := varD ht
    have hnot : hasL O (t : Int) = false := by
      cases z with
      | row =>
        have a4 := lookC_ok h6 hc (haT, false) (List.mem_singleton.2 rfl)
        have e38 : (IT.var 38).den ρ = some (O.length : Int) := pM hg.1
        have e49 : (IT.fn 49 (.var 38) at9).den ρ = some (if hasL O (t : Int) = true then 1 else 0) := by
          rw [fnD e38 e9, hg.1.2.2.2.1]
          show some (if (dZ .row x n O q).hasN ((O.length : Int)).toNat (t : Int) = true then (1 : Int) else 0) = _
          rw [Int.toNat_natCast, has_eq]
        unfold haT at a4
        rw [cmpD e49 (litD 1)] at a4
        cases hh2 : hasL O (t : Int) with
        | false => rfl
        | true => rw [hh2] at a4; simp [intCmp] at a4
      | nil => rw [hz (by simp)]; rfl
      | zero => rw [hz (by simp)]; rfl
    have hml := miss_lt hnot htn
    obtain ⟨f', hf'⟩ : ∃ f', f' + 1 = f := ⟨f - 1, by omega⟩
    have e90 : (IT.fn 90 at9 (.lit 0)).den ρ = some (if anyP x n f (O ++ [(t : Int)]) = true then 1 else 0) := by
      rw [fnD e9 (litD 0), hg.2]; rfl
    have hval : anyP x n f (O ++ [(t : Int)]) = b := by
      unfold rcT at a3
      rw [cmpD e90 (litD 1)] at a3
      cases hv : anyP x n f (O ++ [(t : Int)]) <;> rw [hv] at a3 <;> cases b <;> first | rfl | (simp [intCmp] at a3)
    have q := List.all_eq_true.1 h4 (0, bL) (List.mem_singleton.2 rfl)
    obtain ⟨r0, hg0⟩ : ∃ r, H.get 0 = some ⟨bL, r⟩ := by
      split at q
      · rename_i k hk
        obtain ⟨kk, rr⟩ := k
        have hkk : kk = bL := ABlk.beq_eq q
        subst hkk
        exact ⟨rr, hk⟩
      · cases q
    obtain ⟨b0, ob0, hN0, hob0, hr0⟩ := hh.blk _ _ hg0
    obtain ⟨bb, ob, hNl, hob, hrl⟩ := hh.blk _ _ hk
    rw [ABlk.beq_eq h3] at hrl
    cases d0 : (SL .row).den ρ with
    | none => simp only [AVal.denL, d0] at hx; cases hx
    | some v0 =>
    cases d1 : (AVal.slice l (.lit 0) (nA z) (.nv c)).den ρ with
    | none =>
      have hx' : AVal.denL ρ [SL .row, .slice l (.lit 0) (nA z) (.nv c)] = some xs := hx
      simp only [AVal.denL, d0, d1] at hx'; cases hx'
    | some vo =>
    have hx' : AVal.denL ρ [SL .row, .slice l (.lit 0) (nA z) (.nv c)] = some [v0, vo] := denL2 d0 d1
    obtain rfl : _ = xs := Option.some.inj (hx'.symm.trans hx)
    obtain ⟨o0, c0, av0, _⟩ := avr_of (l := 0) (on := 62) (nn := 36) (cn := 63) d0 hN0 hob0 hr0 (Option.some.inj (pX hg.1)) (Option.some.inj (pN hg.1)) hn1 hlx
    obtain ⟨cap, hcl, av1⟩ := bA_in hg hz (by omega) ht hNl hob hrl d1
    have hcall := ih f' hf' w (O ++ [(t : Int)]) v0 vo b0 o0 c0 hn60 (by omega) (by rw [List.length_append]; simp only [List.length_singleton]; omega) av0 (.inr ⟨bb, 0, cap, hcl, av1⟩)
    rw [hf', hval] at hcall
    exact spV_ok hcall rfl hh hc
  cases hb1 : (AVal.beq a (SL .row) && (IT.beq nn (nA z) && (ABlk.beq k.k (bA c z) && (hasE [(0, bL)] H && (lookC [q9 .lss at9 (.var 36) true, q9 .geq at9 (.lit 0) true, (rcT, true)] cs && lookC (hasC z) cs))))) with
  | true =>
    rw [hb1] at hr; simp only [cond_true, Option.some.injEq] at hr
    exact key true hb1 hr.symm
  | false =>
    rw [hb1] at hr; simp only [cond_false] at hr
    cases hb2 : (AVal.beq a (SL .row) && (IT.beq nn (nA z) && (ABlk.beq k.k (bA c z) && (hasE [(0, bL)] H && (lookC [q9 .lss at9 (.var 36) true, q9 .geq at9 (.lit 0) true, (rcT, false)] cs && lookC (hasC z) cs))))) with
    | true =>
      rw [hb2] at hr; simp only [cond_true, Option.some.injEq] at hr
      exact key false hb2 hr.symm
    | false => rw [hb2] at hr; cases hr
-- THE LOOP
structure J9 (x : Int) (n f : Nat) (O : List Int) (i : Nat) (ρ : Env) : Prop where
  i9 : ρ.I 9 = (i : Int)
  le : i ≤ n
  no : anyT (fun i => canP x n O i && anyP x n f (O ++ [(i : Int)])) i = false
theorem J9.of_le {i : Nat} {ρ ρ' : Env} (h : J9 x n f O i ρ) (g : ρ.Le ρ') : J9 x n f O i ρ' := ⟨by rw [g.i]; exact h.i9, h.le, h.no⟩
theorem dZ_ok (hz : z ≠ .zero) (hz0 : z ≠ .row → O = []) (hz1 : z = .row → O ≠ []) (hn1 : 1 ≤ n) (hn60 : n ≤ 60) (hlx : (decL x).length = n * 16) (hl : O.length ≤ 60) (hq : O.length ≤ q) : DOk (dZ z x n O q) := by
  refine ⟨hlx, ?_, hn60, hl, hq, hn1, ?_⟩
  · show (decL (encL O)).length = O.length
    rw [decL_encL]
  · cases z with
    | row => exact List.length_pos_iff.2 (hz1 rfl)
    | nil => show O.length = 0; rw [hz0 (by simp)]; rfl
    | zero => exact absurd rfl hz
theorem loop9 {w0 : World} (hz : z ≠ .zero) (hz0 : z ≠ .row → O = []) (hz1 : z = .row → O ≠ []) (hn1 : 1 ≤ n) (hn60 : n ≤ 60) (hlx : (decL x).length = n * 16) (hm : miss O n ≤ f) (hl : O.length + f ≤ 60) (hq : O.length ≤ q) (ih : ∀ f', f' + 1 = f → AnyC x n f') (hw : wrP x n O ≠ 0) :
    ∀ ρ, (∃ i, J9 x n f O i ρ) → ∀ todo a w', todo = .inLoop L9 :: Q9 ∨ todo = .code (.loop L9) :: Q9 → SRel ⟨w0, [], Ga (dZ z x n O q) (g90 x n f O)⟩ ρ ((TA z).st todo) a w' → Goes Try.prog 9 (fun v w' => v = .bool (anyP x n (f + 1) O) ∧ Framed w0 w') todo a w' := by
  have ok := dZ_ok (q := q) hz hz0 hz1 hn1 hn60 hlx (by omega) hq
  have hsp : CallOk Try.prog ⟨w0, [], Ga (dZ z x n O q) (g90 x n f O)⟩ (spA9 z) := by
    have w8 : SpGOk Try.prog ⟨w0, [], Ga (dZ z x n O q) (g90 x n f O)⟩ 8 (spWr .row z) := SpGOk.mapG (spWr8_ok ok (β := ⟨w0, [], Gd (dZ z x n O q)⟩) rfl) fun _ _ _ _ _ h => h.1
    have w9 := spAny_ok (w0 := w0) (z := z) (q := q) hn1 hn60 hlx hz0 hm hl ih
    cases z with
    | row =>
        refine spL_ok fun p hp => ?_
        simp only [List.mem_cons, List.not_mem_nil, or_false] at hp
        rcases hp with rfl | rfl | rfl
        · exact w8
        · exact SpGOk.mapG (spHas_ok ok rfl (β := ⟨w0, [], Gd (dZ .row x n O q)⟩) rfl) fun _ _ _ _ _ h => h.1
        · exact w9
    | nil =>
        refine spL_ok fun p hp => ?_
        simp only [List.mem_cons, List.not_mem_nil, or_false] at hp
        rcases hp with rfl | rfl
        · exact w8
        · exact w9
    | zero => exact absurd rfl hz
  have csE' : ∀ {ρ}, (Ga (dZ z x n O q) (g90 x n f O)).at ρ → CRel ρ (csE .row z) := fun hg => dcE ok hg.1
  have csN' : ∀ {i ρ}, J9 x n f O i ρ → (Ga (dZ z x n O q) (g90 x n f O)).at ρ → CRel ρ (TA z).cs := fun j hg => CRel_app.2 ⟨cs9_ok j.i9 (pN hg.1) j.le, csE' hg⟩
  have hval : anyP x n (f + 1) O = anyT (fun i => canP x n O i && anyP x n f (O ++ [(i : Int)])) n := by
    show (decide (wrP x n O = 0) || _) = _
    rw [decide_eq_false hw]; rfl
  refine scanp (β := ⟨w0, [], Ga (dZ z x n O q) (g90 x n f O)⟩) (pl := PL.only [4]) (sp := spA9 z) (f := 9) (fn := Try.f9) (j := 0) (T := TA z) (Ts := [TA z]) hsp rfl (Q := fun v => v = .bool (anyP x n (f + 1) O)) (fun ρ => ∃ i, J9 x n f O i ρ) (fun ρ => ((n : Int) - ρ.I 9).toNat) fun ρ ⟨i, j⟩ hg hcs _ ih2 => ?_
  have hd := hg.1
  have e9 : at9.den ρ = some (i : Int) := varD j.i9
  have hi := j.le
  by_cases hlt : i < n
  · have e1 := rT_den hd e9 1
    have e8 := rT_den hd e9 8
    have nxt : (canP x n O i && anyP x n f (O ++ [(i : Int)])) = false → ∀ s ∈ [LS.next 0 (.inLoop L9 :: Q9) [] (sA z up9)], SumGood Try.prog ⟨w0, [], Ga (dZ z x n O q) (g90 x n f O)⟩ 9 (fun v => v = .bool (anyP x n (f + 1) O)) [TA z] ρ s := fun h => Go.Vm.one (nextS rfl fun ρ' hle hG => by
      have j' := j.of_le hle
      have jn : J9 x n f O (i + 1) ((sA z up9).app ρ') := ⟨sbI (t := up9) rfl (upD (varD j'.i9) (by omega)), hlt, anyT_step j'.no h⟩
      have hGn : (Ga (dZ z x n O q) (g90 x n f O)).at ((sA z up9).app ρ') := gaKeep rfl hG
      exact ⟨hGn, csN' jn hGn, fun a w' r => ih2 _ (by rw [jn.i9, j.i9]; omega) ⟨_, jn⟩ _ a w' (.inl rfl) r⟩)
    have yes : (canP x n O i && anyP x n f (O ++ [(i : Int)])) = true → ∀ s ∈ [LS.ret (.bool (.lit true)) []], SumGood Try.prog ⟨w0, [], Ga (dZ z x n O q) (g90 x n f O)⟩ 9 (fun v => v = .bool (anyP x n (f + 1) O)) [TA z] ρ s := fun h => Go.Vm.one (retS (z := .bool true) (fun _ _ => rfl) (by rw [hval, anyT_true hlt h]))
    have fgo : ∀ b, (!decide ((dZ z x n O q).c (i : Int) 1 = 2)) = b → CRel ρ (goA b) := fun b hb => qD e9 (pN hd) (by simp [intCmp]; exact hlt) (qD e1 (litD 2) (by rw [← hb]; rfl) (fun p hp => by cases hp))
    have feG : ∀ b, (dZ z x n O q).ended (i : Int) = b → CRel ρ (eG b) := fun b hb => qD e8 (litD (-1)) (by
      rw [← hb]
      simp only [intCmp, Dt.ended, Option.some.injEq, decide_eq_decide]; omega) (fun p hp => by cases hp)
    by_cases hk : (dZ z x n O q).c (i : Int) 1 = 2
    · have g := fgo false (by rw [decide_eq_true hk]; rfl)
      have rend : (dZ z x n O q).refd (i : Int) = true → (dZ z x n O q).ended (i : Int) = true := fun h => by
        simp only [Dt.refd, Bool.and_eq_true] at h; exact h.1
      have canF : (dZ z x n O q).refd (i : Int) = true → canP x n O i = false := fun h => by
        have h' : (dA x n O).refd (i : Int) = true := h
        unfold canP; rw [h']; simp
      have e90 : (IT.fn 90 at9 (.lit 0)).den ρ = some (if anyP x n f (O ++ [(i : Int)]) = true then 1 else 0) := by
        rw [fnD e9 (litD 0), hg.2]; rfl
      have frc : ∀ b, anyP x n f (O ++ [(i : Int)]) = b → CRel ρ [(rcT, b)] := fun b hb => Go.Vm.c1 (by
        unfold rcT
        rw [cmpD e90 (litD 1), hb]; cases b <;> rfl) (fun p hp => by cases hp)
      have canT : (dZ z x n O q).refd (i : Int) = false → hasL O (i : Int) = false → canP x n O i = true := fun h h2 => by
        have h' : (dA x n O).refd (i : Int) = false := h
        have hk' : (dA x n O).c (i : Int) 1 = 2 := hk
        unfold canP; rw [h', h2, decide_eq_true hk']; rfl
      have fha : z = .row → ∀ b, hasL O (i : Int) = b → CRel ρ [(haT, b)] := fun hzr b hb => by
        have e38 : (IT.var 38).den ρ = some (O.length : Int) := pM hd
        have e49 : (IT.fn 49 (.var 38) at9).den ρ = some (if hasL O (i : Int) = true then 1 else 0) := by
          rw [fnD e38 e9, hd.2.2.2.1]
          show some (if (dZ z x n O q).hasN ((O.length : Int)).toNat (i : Int) = true then (1 : Int) else 0) = _
          rw [Int.toNat_natCast, has_eq]
        exact Go.Vm.c1 (by
          unfold haT
          rw [cmpD e49 (litD 1), hb]; cases b <;> rfl) (fun p hp => by cases hp)
      have fhas : hasL O (i : Int) = false → CRel ρ (hasC z) := fun h => by
        cases z with
        | row => exact fha rfl false h
        | nil => exact fun p hp => by cases hp
        | zero => exact absurd rfl hz
      rcases refd_ways4 hd e9 with ⟨hr, fa⟩ | ⟨hr, fa⟩ | ⟨hr, hen, fa⟩ | ⟨hr, hen, fa⟩
      · exact ⟨_, _, CRel_app.2 ⟨g, CRel_app.2 ⟨fa, feG true (rend hr)⟩⟩, a_A z hz, nxt (by rw [canF hr]; rfl)⟩
      · exact ⟨_, _, CRel_app.2 ⟨g, CRel_app.2 ⟨fa, feG true (rend hr)⟩⟩, a_B z hz, nxt (by rw [canF hr]; rfl)⟩
      · cases hh : hasL O (i : Int) with
        | true =>
          have hzr : z = .row := by
            cases z with
            | row => rfl
            | nil => rw [hz0 (by simp)] at hh; cases hh
            | zero => exact absurd rfl hz
          subst hzr
          exact ⟨_, _, CRel_app.2 ⟨g, CRel_app.2 ⟨CRel_app.2 ⟨fa, feG true hen⟩, fha rfl true hh⟩⟩, a_hC, nxt (by unfold canP; rw [hh]; simp)⟩
        | false =>
          have ct := canT hr hh
          cases hv : anyP x n f (O ++ [(i : Int)]) with
          | true => exact ⟨_, _, CRel_app.2 ⟨g, CRel_app.2 ⟨CRel_app.2 ⟨fa, feG true hen⟩, CRel_app.2 ⟨fhas hh, frc true hv⟩⟩⟩, a_yC z hz, yes (by rw [ct, hv]; rfl)⟩
          | false => exact ⟨_, _, CRel_app.2 ⟨g, CRel_app.2 ⟨CRel_app.2 ⟨fa, feG true hen⟩, CRel_app.2 ⟨fhas hh, frc false hv⟩⟩⟩, a_nC z hz, nxt (by rw [ct, hv]; rfl)⟩
      · cases hh : hasL O (i : Int) with
        | true =>
          have hzr : z = .row := by
            cases z with
            | row => rfl
            | nil => rw [hz0 (by simp)] at hh; cases hh
            | zero => exact absurd rfl hz
          subst hzr
          exact ⟨_, _, CRel_app.2 ⟨g, CRel_app.2 ⟨CRel_app.2 ⟨fa, feG false hen⟩, fha rfl true hh⟩⟩, a_hD, nxt (by unfold canP; rw [hh]; simp)⟩
        | false =>
          have ct := canT hr hh
          cases hv : anyP x n f (O ++ [(i : Int)]) with
          | true => exact ⟨_, _, CRel_app.2 ⟨g, CRel_app.2 ⟨CRel_app.2 ⟨fa, feG false hen⟩, CRel_app.2 ⟨fhas hh, frc true hv⟩⟩⟩, a_yD z hz, yes (by rw [ct, hv]; rfl)⟩
          | false => exact ⟨_, _, CRel_app.2 ⟨g, CRel_app.2 ⟨CRel_app.2 ⟨fa, feG false hen⟩, CRel_app.2 ⟨fhas hh, frc false hv⟩⟩⟩, a_nD z hz, nxt (by rw [ct, hv]; rfl)⟩
    · have hk' : ¬ (dA x n O).c (i : Int) 1 = 2 := hk
      exact ⟨_, _, fgo true (by rw [decide_eq_false hk]; rfl), a_kind z hz, nxt (by unfold canP; rw [decide_eq_false hk']; rfl)⟩
  · obtain rfl : i = n := by omega
    exact ⟨_, _, qD e9 (pN hd) (by simp [intCmp]; exact Nat.le_refl _) (fun p hp => by cases hp), a_end z hz, Go.Vm.one (retS (z := .bool false) (fun _ _ => rfl) (by rw [hval, j.no]))⟩
end
end Ls
end Go.Proofs.Ytpgonpjakllnjaa
end

/-
  LinearSearch (20): Any, of values.
-/
section
namespace Go.Proofs.Ytpgonpjakllnjaa
open Go.Vm Go.Vm.Md Lm Lt
namespace Ls

noncomputable def IdA (d : Dt) : Nat → Int := fun i => match lk (pins d) i with
  | some x => x
  | none => 0
noncomputable def envA (d : Dt) (g : Int → Int → Int) (o0 c0 o1 : Nat) (N : Nat → Option Nat) : Env :=
  ⟨fun i => if i = 62 then (o0 : Int) else if i = 63 then (c0 : Int) else if i = 64 then (o1 : Int) else IdA d i, fun _ => false, fun _ => default, fun _ => undef, N, fun k => if k = 90 then g else Lt.Fd d k⟩
theorem IdA_d (d : Dt) : ∀ p ∈ pins d, IdA d p.1 = p.2 := fun p hp => by
  simp only [pins, List.mem_cons, List.not_mem_nil, or_false] at hp
  rcases hp with rfl | rfl | rfl | rfl | rfl | rfl | rfl | rfl | rfl | rfl | rfl | rfl | rfl | rfl | rfl | rfl <;> rfl
theorem envA_G (d : Dt) (g : Int → Int → Int) (o0 c0 o1 : Nat) (N : Nat → Option Nat) : (Ga d g).at (envA d g o0 c0 o1 N) := by
  refine ⟨⟨fun p hp => ?_, ⟨rfl, rfl, rfl, rfl, rfl, rfl, rfl⟩, rfl, rfl, rfl, rfl, rfl, rfl, rfl, rfl⟩, rfl⟩
  have h1 := IdA_d d p hp
  simp only [pins, List.mem_cons, List.not_mem_nil, or_false] at hp
  rcases hp with rfl | rfl | rfl | rfl | rfl | rfl | rfl | rfl | rfl | rfl | rfl | rfl | rfl | rfl | rfl | rfl <;> exact h1
section
variable {x : Int} {n f q : Nat} {O : List Int} {z : Kd} {w : World}
/-- A call of Any, over its names. -/
theorem call9 (hz : z ≠ .zero) (hz0 : z ≠ .row → O = []) (hz1 : z = .row → O ≠ []) (hn1 : 1 ≤ n) (hn60 : n ≤ 60) (hlx : (decL x).length = n * 16) (hm : miss O n ≤ f) (hl : O.length + f ≤ 60) (hq : O.length ≤ q) (ih : ∀ f', f' + 1 = f → AnyC x n f') {ρ : Env} {xs : List Value}
    (hr : HRel ⟨w, [], Ga (dZ z x n O q) (g90 x n f O)⟩ ρ (ofP (Lt.roH (EE .row z))) 100 w) (hx : AVal.denL ρ [SL .row, SO z] = some xs) : Calls Try.prog 9 xs.toArray w fun e w' => e = .returned (.bool (anyP x n (f + 1) O)) ∧ Framed w w' := by
  have ok := dZ_ok (q := q) hz hz0 hz1 hn1 hn60 hlx (by omega) hq
  have hg : (Ga (dZ z x n O q) (g90 x n f O)).at ρ := hr.g
  have w8 : CallOk Try.prog ⟨w, [], Ga (dZ z x n O q) (g90 x n f O)⟩ (spA8 .row z) := spL_ok fun p hp => by
    rw [List.mem_singleton.1 hp]
    exact SpGOk.mapG (spWr8_ok ok (β := ⟨w, [], Gd (dZ z x n O q)⟩) rfl) fun _ _ _ _ _ h => h.1
  have e45 : (IT.var 45).den ρ = some (wrP x n O) := by
    have : (IT.var 45).den ρ = some (dZ z x n O q).wrong := pin hg.1 (by simp [pins])
    rw [this]
    exact congrArg some wrong_q
  have fw : ∀ b, decide (wrP x n O = 0) = b → CRel ρ (csE .row z ++ wrC b) := fun b hb => CRel_app.2 ⟨dcE ok hg.1, qD e45 (litD 0) (by rw [← hb]; rfl) (fun p hp => by cases hp)⟩
  by_cases hw : wrP x n O = 0
  · exact toE (callq (Ts := [TA z]) (pl := PL.only [4]) w8 rfl Try.func9 rfl (a_yes z hz) hx hr (fw true (decide_eq_true hw)) (Go.Vm.one (retS (z := .bool true) (fun _ _ => rfl) (by
      show Value.bool true = .bool (decide (wrP x n O = 0) || _)
      rw [decide_eq_true hw]; rfl))))
  · refine toE (callq (Ts := [TA z]) (pl := PL.only [4]) w8 rfl Try.func9 rfl (a_in z hz) hx hr (fw false (decide_eq_false hw)) (Go.Vm.one (nextS rfl fun ρ' hle hG => ?_)))
    have jn : J9 x n f O 0 ((sA z (.lit 0)).app ρ') := ⟨sbI (t := .lit 0) rfl rfl, Nat.zero_le _, rfl⟩
    have hGn : (Ga (dZ z x n O q) (g90 x n f O)).at ((sA z (.lit 0)).app ρ') := gaKeep rfl hG
    exact ⟨hGn, CRel_app.2 ⟨cs9_ok jn.i9 (pN hGn.1) (Nat.zero_le _), dcE ok hGn.1⟩, fun a w' r => loop9 hz hz0 hz1 hn1 hn60 hlx hm hl hq ih hw _ ⟨0, jn⟩ _ a w' (.inr rfl) r⟩
theorem any9 : ∀ f, AnyC x n f := by
  intro f
  induction f using Nat.strongRecOn with
  | _ f ih0 =>
    intro w O v0 vo b0 o0 c0 hn60 hm hl av0 hvo
    have ih : ∀ f', f' + 1 = f → AnyC x n f' := fun f' h => ih0 f' (by omega)
    obtain ⟨rfl, hn1, hlx, cc0, fr0, el0, hob0, hle0, hp0⟩ := av0
    rcases hvo with ⟨rfl, rfl⟩ | ⟨b1, o1, q, hq, rfl, hm1, hly, cc1, fr1, el1, hob1, hle1, hp1⟩
    · obtain ⟨N, hN⟩ : ∃ N : Nat → Option Nat, N = fun i => if i = 0 then some b0 else none := ⟨_, rfl⟩
      have N0 : N 0 = some b0 := by rw [hN]; rfl
      have Nn : ∀ i, 1 ≤ i → N i = none := fun i hi => by rw [hN]; show (if i = 0 then some b0 else none) = none; rw [if_neg (by omega)]
      clear hN
      have hG := envA_G (dZ .nil x n [] 0) (g90 x n f []) o0 c0 0 N
      obtain ⟨ρ, hρ⟩ : ∃ ρ, ρ = envA (dZ .nil x n [] 0) (g90 x n f []) o0 c0 0 N := ⟨_, rfl⟩
      rw [← hρ] at hG
      have rN : ρ.N = N := by rw [hρ]; rfl
      have i62 : ρ.I 62 = (o0 : Int) := by rw [hρ]; rfl
      have i63 : ρ.I 63 = (c0 : Int) := by rw [hρ]; rfl
      have hr : HRel ⟨w, [], Ga (dZ .nil x n [] 0) (g90 x n f [])⟩ ρ (ofP (Lt.roH (EE .row .nil))) 100 w := by
        refine HRel.ro (EE .row .nil) (fun p hp => ?_) (fun i hi => by rw [rN]; exact Nn i (by omega)) hG (nb_EE _ _)
        have hp' : p ∈ [((0 : Nat), bL)] := hp
        obtain rfl := List.mem_singleton.1 hp'
        exact ⟨b0, _, by rw [rN]; exact N0, hob0, rowOf ksR (decL x), cc0, fr0, el0, n, o0, rfl, (fun h => by cases h), by simp only [AT.den, pX hG.1, Option.map_some]; rfl, varD i62, ⟨hle0, hp0⟩, pN hG.1, rowOf_typed hlx, trivial, fun h => by cases h⟩
      have hx : AVal.denL ρ [SL .row, SO .nil] = some [.slice (some ⟨b0, o0, none⟩) n c0, .slice none 0 0] := denL2 (den_slice_of (by rw [rN]; exact N0) (varD i62) (pN hG.1) (varD i63)) rfl
      exact call9 (by simp) (fun _ => rfl) (fun h => by cases h) hn1 hn60 hlx hm hl (Nat.zero_le _) ih hr hx
    · have hO : O ≠ [] := List.length_pos_iff.1 hm1
      obtain ⟨N, hN⟩ : ∃ N : Nat → Option Nat, N = fun i => if i = 0 then some b0 else if i = 1 then some b1 else none := ⟨_, rfl⟩
      have N0 : N 0 = some b0 := by rw [hN]; rfl
      have N1 : N 1 = some b1 := by rw [hN]; rfl
      have Nn : ∀ i, 2 ≤ i → N i = none := fun i hi => by rw [hN]; show (if i = 0 then some b0 else if i = 1 then some b1 else none) = none; rw [if_neg (by omega), if_neg (by omega)]
      clear hN
      have hG := envA_G (dZ .row x n O q) (g90 x n f O) o0 c0 o1 N
      obtain ⟨ρ, hρ⟩ : ∃ ρ, ρ = envA (dZ .row x n O q) (g90 x n f O) o0 c0 o1 N := ⟨_, rfl⟩
      rw [← hρ] at hG
      have rN : ρ.N = N := by rw [hρ]; rfl
      have i62 : ρ.I 62 = (o0 : Int) := by rw [hρ]; rfl
      have i63 : ρ.I 63 = (c0 : Int) := by rw [hρ]; rfl
      have i64 : ρ.I 64 = (o1 : Int) := by rw [hρ]; rfl
      have hr : HRel ⟨w, [], Ga (dZ .row x n O q) (g90 x n f O)⟩ ρ (ofP (Lt.roH (EE .row .row))) 100 w := by
        refine HRel.ro (EE .row .row) (fun p hp => ?_) (fun i hi => by rw [rN]; exact Nn i (by omega)) hG (nb_EE _ _)
        rcases mem_EE hp with rfl | rfl
        · exact ⟨b0, _, by rw [rN]; exact N0, hob0, rowOf ksR (decL x), cc0, fr0, el0, n, o0, rfl, (fun h => by cases h), by simp only [AT.den, pX hG.1, Option.map_some]; rfl, varD i62, ⟨hle0, hp0⟩, pN hG.1, rowOf_typed hlx, trivial, fun h => by cases h⟩
        · refine ⟨b1, _, by rw [rN]; exact N1, hob1, rowOf [.i64] O, cc1, fr1, el1, O.length, o1, rfl, (fun h => by cases h), ?_, varD i64, ⟨hle1, hp1⟩, pM hG.1, rowOf_typed (by simp), trivial, fun h => by cases h⟩
          have e37 : (IT.var 37).den ρ = some (encL O) := pY hG.1
          simp only [AT.den, e37, Option.map_some, decL_encL]
      have hx : AVal.denL ρ [SL .row, SO .row] = some [.slice (some ⟨b0, o0, none⟩) n c0, .slice (some ⟨b1, o1, none⟩) O.length q] := denL2 (den_slice_of (by rw [rN]; exact N0) (varD i62) (pN hG.1) (varD i63)) (den_slice_of (by rw [rN]; exact N1) (varD i64) (pM hG.1) (pQ hG.1))
      exact call9 (by simp) (fun h => absurd rfl h) (fun _ => hO) hn1 hn60 hlx hm hl hq ih hr hx
end
end Ls
end Go.Proofs.Ytpgonpjakllnjaa
end
