/-
  LeastPlays: the law's end, proved.
-/
import Derived.Test.YtlcjgmehccopkaaLb5
import Derived.Test.YtlcjgmehccopkaaLc2
import Derived.Test.YtlcjgmehccopkaaLc3
import Derived.Test.YtlcjgmehccopkaaLc4
namespace Go.Proofs.Ytlcjgmehccopkaa
open Go.Vm Go.Vm.Le
namespace La
open Lp

theorem can_ret {P : Program} {β : Base} {f : FuncId} {Q : Value → Prop} {g : Gen} {Ts : List Tpl} {ks : List Nat} {ls : List Leaf} {ρ : Env} {u : AVal} (h : ls.filterMap (sumC g Ts ks) = [.ret u []]) (hs : SumGood P β f Q Ts ρ (.ret u [])) : ∀ s ∈ ls.filterMap (sumL g Ts), SumGood P β f Q Ts ρ s := by
  intro s hm
  obtain ⟨l, hl, he⟩ := List.mem_filterMap.1 hm
  have hx : sumC g Ts ks l = some (canL ks s.dc) := by simp only [sumC, sumX_of he, Option.map_some]
  have hmem : canL ks s.dc ∈ ls.filterMap (sumC g Ts ks) := List.mem_filterMap.2 ⟨l, hl, hx⟩
  rw [h, List.mem_singleton] at hmem
  cases s with
  | next q' td' cs' σ => cases hmem
  | ret v cs =>
    simp only [LS.dc, canL, LS.ret.injEq] at hmem
    obtain ⟨rfl, _⟩ := hmem
    exact SumGood.of_dc hs
  | stop cs => cases hmem
  | bad => cases hmem
/-- What holds at the end's heads. -/
structure Js (most : Int) (p : Pat) (Ks : Nat → List Int) (ρ : Env) : Prop where
  p1 : 1 ≤ p.length
  p4 : p.length ≤ 4
  st : ∀ j, j < p.length → Sv most 100 (p.getD j false) (Ks j) (ρ.I (40 + j)) (ρ.I (44 + j)) (ρ.I (48 + j)) (ρ.I (52 + j))
theorem Jw.js {n : Nat} {most : Int} {p : Pat} {Ks : Nat → List Int} {i : Nat} {ρ : Env} (j : Jw n most p Ks i ρ) : Js most p Ks ρ := ⟨j.p1, j.p4, fun a ha => (j.st a ha).mono (by have := j.il; have := j.n100; omega)⟩
section
variable {most : Int} {p : Pat} {Ks : Nat → List Int} {ρ : Env}
theorem Js.of_le {ρ' : Env} (s : Js most p Ks ρ) (g : ρ.Le ρ') : Js most p Ks ρ' := ⟨s.p1, s.p4, by rw [g.i]; exact s.st⟩
theorem Js.rows (s : Js most p Ks ρ) : CRel ρ (csRows 0 p) := csRows_ok p 0 fun q hq hy => by
  rw [Nat.zero_add]
  have s := s.st q hq
  obtain ⟨_, e2, e3⟩ := s.row hy
  have := List.length_pos_iff.2 e3
  have := s.le
  rw [e2]; omega
theorem Js.lenA (s : Js most p Ks ρ) {j : Nat} (hj : j < p.length) : (La.lenA p j).den ρ = some ((Ks j).length : Int) := by
  have s := s.st j hj
  unfold La.lenA
  cases hy : p.getD j false with
  | false => rw [s.nil hy]; rfl
  | true => exact varD (s.row hy).2.1
theorem Js.fS (s : Js most p Ks ρ) (hG : GW.at ρ) {j : Nat} (hj : j < p.length) : CRel ρ (La.fS p (decide (ρ.I 64 ∈ Ks j)) j) ∧ (p.getD j false = false → decide (ρ.I 64 ∈ Ks j) = false) := by
  have e := s.lenA hj
  have s := s.st j hj
  obtain ⟨⟨_, _, _, g83, g84, g85, _, _⟩, g88, _, _, _⟩ := hG
  have hb : (bigT j).den ρ = some (ρ.I (40 + j)) := rfl
  have ek : sK (ρ.I (40 + j)) = Ks j := by rw [s.x, sK_enc]
  have eh : sHigh (ρ.I (40 + j)) = ρ.I (48 + j) := by rw [s.x, sHigh_enc]
  have e84 : (IT.fn 84 (bigT j) (.lit 0)).den ρ = some ((Ks j).length : Int) := by rw [fnD hb (litD 0), g84]; simp only [ek]
  have e85 : (IT.fn 85 (bigT j) (.lit 0)).den ρ = some (ρ.I (48 + j)) := by rw [fnD hb (litD 0), g85]; simp only [eh]
  have e83 : (IT.fn 83 (bigT j) (.var 64)).den ρ = some (if ρ.I 64 ∈ Ks j then 1 else 0) := by rw [fnD hb (varD rfl), g83]; simp only [ek]
  have bit : ∀ {t : IT}, t.den ρ = some (if ρ.I 64 ∈ Ks j then 1 else 0) → (BT.cmp .eql t (.lit 1)).den ρ = some (decide (ρ.I 64 ∈ Ks j)) := fun {t} ht => by
    by_cases hm : ρ.I 64 ∈ Ks j
    · rw [if_pos hm] at ht; rw [decide_eq_true hm]; exact eqlT ht (litD 1) rfl
    · rw [if_neg hm] at ht; rw [decide_eq_false hm]; exact eqlF ht (litD 1) (by omega)
  refine ⟨CRel_app.2 ⟨c1 (neqF e84 e rfl) (c1 (neqF e85 (varD rfl) rfl) (c1 (bit e83) c0)), ?_⟩, fun hy => by rw [s.nil hy]; rfl⟩
  cases hy : p.getD j false with
  | false => exact c0
  | true =>
    refine c1 (bit ?_) c0
    rw [fnD (varD rfl) (varD rfl), g88, hasF, (s.row hy).1, decL_encL]
theorem exN_lk (j : Nat) (t : IT) (k : Nat) (hk : k ≠ 1) : lk (exN p j t) k = lk (newI p p sameW) k := by
  have e : newI p p sameW = (1, up1) :: (newI p p sameW).drop 1 := rfl
  have hb : Nat.beq 1 k = false := bq_ne (Ne.symm hk)
  rw [e]
  unfold exN
  rw [lk_app]
  simp only [lk, hb, cond_false]
  cases p.getD j false with
  | false => rfl
  | true => simp only [cond_true, lk, hb, cond_false]; rfl
theorem same_big {b : Nat} (h : b < 4) : nBig p sameW b = .var (40 + b) := by simp only [nBig, sameW, bq_ne (by omega : b ≠ 9), cond_false]
/-- The stocks stay. -/
theorem Js.next (s : Js most p Ks ρ) {j : Nat} {t : IT} {σ : Sub} (hσ : canS ksW σ = ⟨exN p j t, [], [], [], []⟩) : Js most p Ks (σ.app ρ) ∧ (p.getD j false = true → lk σ.I 1 = some t) := by
  have hp := s.p4
  have look : ∀ k ∈ ksW, lk σ.I k = lk (exN p j t) k := fun k hk => by
    rw [← lk_can σ.I ksW k hk]
    exact congrArg (fun s : Sub => lk s.I k) hσ
  have mem : ∀ b, b = 40 ∨ b = 44 ∨ b = 48 ∨ b = 52 → ∀ a, a < 4 → b + a ∈ ksW := fun b hb a ha => by
    have : a = 0 ∨ a = 1 ∨ a = 2 ∨ a = 3 := by omega
    rcases hb with rfl | rfl | rfl | rfl <;> rcases this with rfl | rfl | rfl | rfl <;> decide
  refine ⟨⟨s.p1, s.p4, fun a ha => ?_⟩, fun hy => ?_⟩
  · have q := s.st a ha
    have l : ∀ b, b = 40 ∨ b = 44 ∨ b = 48 ∨ b = 52 → lk σ.I (b + a) = lk (newI p p sameW) (b + a) := fun b hb => (look _ (mem b hb a (by omega))).trans (exN_lk j t _ (by omega))
    have e40 : (σ.app ρ).I (40 + a) = ρ.I (40 + a) := sbI ((l 40 (.inl rfl)).trans (new_big ha)) (by rw [same_big (by omega)]; rfl)
    have e48 : (σ.app ρ).I (48 + a) = ρ.I (48 + a) := sbI ((l 48 (.inr (.inr (.inl rfl)))).trans (new_high hp ha)) rfl
    rw [e40, e48]
    refine ⟨q.x, fun hy => ?_, q.nil, q.nd, q.le, q.h0⟩
    have e44 : (σ.app ρ).I (44 + a) = ρ.I (44 + a) := sbI ((l 44 (.inr (.inl rfl))).trans (new_row hp ha hy)) rfl
    have e52 : (σ.app ρ).I (52 + a) = ρ.I (52 + a) := sbI ((l 52 (.inr (.inr (.inr rfl)))).trans (new_len hp ha hy)) rfl
    rw [e44, e52]
    exact q.row hy
  · rw [look 1 (by decide)]
    unfold exN
    rw [hy]; rfl
end
def QL : Value → Prop := fun v => v = .bool true
-- THE LOOP OVER A ROW
section
variable (w0 : World) {most : Int} {p : Pat} {Ks : Nat → List Int} (hE : Ends p)
/-- Within a row: so far. -/
def Ji (p : Pat) (Ks : Nat → List Int) (j : Nat) (ρ : Env) : Prop := p.getD j false = true → ∃ i : Nat, ρ.I 1 = (i : Int) ∧ i ≤ (Ks j).length
theorem csN_ok {ρ : Env} {j : Nat} (hj : j < p.length) (s : Js most p Ks ρ) (h : Ji p Ks j ρ) : CRel ρ (csN p j) := by
  refine CRel_app.2 ⟨?_, s.rows⟩
  cases hy : p.getD j false with
  | false => exact c0
  | true =>
    obtain ⟨i, e1, e2⟩ := h hy
    have e3 := ((s.st j hj).row hy).2.1
    exact c1 (geqT (varD e1) (litD 0) (by omega)) (c1 (leqT (varD e1) (varD e3) (by omega)) c0)
def GoN (w0 : World) (_most : Int) (p : Pat) (_Ks : Nat → List Int) (j : Nat) (ρ : Env) : Prop := ∀ todo a w, todo = .inLoop nb :: nk ∨ todo = .code (.loop nb) :: nk → SRel ⟨w0, [], GW⟩ ρ ((N p j).st todo) a w → Goes Try.prog 5 (fun v w' => QL v ∧ Framed w0 w') todo a w
/-- What a round at such a head comes to. -/
def EndN (w0 : World) (T : Tpl) (b : Code) (k : List Item) (ρ : Env) : Prop := ∃ pl Ts cs' sums, CRel ρ cs' ∧ (run Try.prog [] sp5 4000 pl 5 ((⟨T.tm, T.nt, T.H, T.nl, cs', T.dep⟩ : Tpl).st (.code b :: .inLoop b :: k))).map (·.filterMap (sumL gW Ts)) = some sums ∧ ∀ s ∈ sums, SumGood Try.prog ⟨w0, [], GW⟩ 5 QL Ts ρ s
theorem enter {T : Tpl} {b : Code} {k : List Item} {c : Cs} {ρ : Env} {j : Nat} (hj : j < p.length) (s : Js most p Ks ρ) (hc : CRel ρ (c ++ T.cs)) (hrun : runN T b k c (N p j) = some [.next 0 (.code (.loop nb) :: nk) [] ⟨exN p j (.lit 0), [], [], [], []⟩])
    (hgo : ∀ ρ, (Js most p Ks ρ ∧ Ji p Ks j ρ) → GoN w0 most p Ks j ρ) : EndN w0 T b k ρ := by
  obtain ⟨ls, hls, hsum⟩ := Option.map_eq_some_iff.1 hrun
  refine ⟨plN, [N p j], _, _, hc, by rw [hls]; rfl, can_good hsum fun σ hσ => nextS (T := N p j) rfl fun ρ' hle hG' => ?_⟩
  obtain ⟨s', l1⟩ := (s.of_le hle).next hσ
  have hi : Ji p Ks j (σ.app ρ') := fun hy => ⟨0, sbI (l1 hy) rfl, Nat.zero_le _⟩
  exact ⟨hG', csN_ok hj s' hi, fun a w r => hgo _ ⟨s', hi⟩ _ a w (.inr rfl) r⟩
include hE
theorem stepN {j : Nat} (hj : j < p.length) {ρ : Env} (s : Js most p Ks ρ) {i : Nat} (hy : p.getD j false = true) (e1 : ρ.I 1 = (i : Int)) (hl : i < (Ks j).length) (hcs : CRel ρ (N p j).cs) (hG : GW.at ρ)
    (ih : ∀ ρ', (((Ks j).length : Int) - ρ'.I 1).toNat < (((Ks j).length : Int) - ρ.I 1).toNat → (Js most p Ks ρ' ∧ Ji p Ks j ρ') → GoN w0 most p Ks j ρ') : EndN w0 (N p j) nb nk ρ := by
  obtain ⟨ls, hls, hsum⟩ := Option.map_eq_some_iff.1 (hE.e2 j hy)
  have q := s.st j hj
  obtain ⟨r1, r2, r3⟩ := q.row hy
  have hle := q.le
  have e83 : (IT.fn 83 (bigT j) (.un 0 (.var (44 + j)) (.elem (.lit 0) 1 0 (.var 1)))).den ρ = some 1 := by
    have e : (IT.elem (.lit 0) 1 0 (.var 1)).den ρ = some ((i : Nat) : Int) := by
      rw [elemD (x := 0) (y := i) (litD 0) (varD e1)]; congr 2; omega
    have e2 : (IT.un 0 (.var (44 + j)) (.elem (.lit 0) 1 0 (.var 1))).den ρ = some ((Ks j).getD i 0) := by
      rw [unD (varD r1) e]
      show some ((decL (encL (Ks j))).getD ((i : Int)).toNat 0) = _
      rw [decL_encL, Int.toNat_natCast]
    rw [fnD (show (bigT j).den ρ = some (ρ.I (40 + j)) from rfl) e2, hG.1.2.2.2.1]
    have ek : sK (ρ.I (40 + j)) = Ks j := by rw [q.x, sK_enc]
    have hm : (Ks j).getD i 0 ∈ Ks j := by
      rw [List.getD_eq_getElem?_getD, List.getElem?_eq_getElem hl]; exact List.getElem_mem hl
    simp only [ek, hm, if_true]
  have fk : CRel ρ (fK j) := c1 (lssT (varD e1) (varD r2) (by omega)) (c1 (eqlT e83 (litD 1) rfl) c0)
  refine ⟨plN, [N p j], _, _, CRel_app.2 ⟨fk, hcs⟩, by rw [hls]; rfl, can_good hsum fun σ hσ => nextS (T := N p j) rfl fun ρ' hle hG' => ?_⟩
  obtain ⟨s', l1⟩ := (s.of_le hle).next hσ
  have f1 : (σ.app ρ').I 1 = ((i + 1 : Nat) : Int) := sbI (l1 hy) (upD (varD (by rw [hle.i]; exact e1)) (by omega))
  have hi : Ji p Ks j (σ.app ρ') := fun _ => ⟨i + 1, f1, hl⟩
  exact ⟨hG', csN_ok hj s' hi, fun a w r => ih _ (by rw [f1, e1]; omega) ⟨s', hi⟩ _ a w (.inl rfl) r⟩
theorem loopN : ∀ (d j : Nat), j + d + 1 = p.length → ∀ ρ, (Js most p Ks ρ ∧ Ji p Ks j ρ) → GoN w0 most p Ks j ρ := by
  intro d
  induction d with
  | zero =>
    intro j hd
    have hj : j < p.length := by omega
    refine fun ρ hJ => loop_goesI (ι := Unit) (n := 4000) (g := gW) (Q := QL) (β := ⟨w0, [], GW⟩) noCount noExt (sp5_ok w0) follows rfl (fun _ => N p j) (fun _ ρ => Js most p Ks ρ ∧ Ji p Ks j ρ) (fun ρ => (((Ks j).length : Int) - ρ.I 1).toNat) (fun _ ρ hJ hH hcs hG ih => ?_) () ρ hJ
    obtain ⟨s, hi⟩ := hJ
    by_cases hk : p.getD j false = true ∧ ∃ i : Nat, ρ.I 1 = (i : Int) ∧ i < (Ks j).length
    · obtain ⟨hy, i, e1, hl⟩ := hk
      exact stepN w0 hE hj s hy e1 hl hcs hG fun ρ' h1 h2 => ih () ρ' h1 h2
    · have hx : CRel ρ (fX p j) := by
        unfold fX
        cases hy : p.getD j false with
        | false => exact c0
        | true =>
          obtain ⟨i, e1, e2⟩ := hi hy
          have : ¬ i < (Ks j).length := fun h => hk ⟨hy, i, e1, h⟩
          exact c1 (lssF (varD e1) (varD ((s.st j hj).row hy).2.1) (by omega)) c0
      obtain ⟨ls, hls, hsum⟩ := Option.map_eq_some_iff.1 (hE.e4 j (by omega))
      exact ⟨plN, [N p j], _, _, CRel_app.2 ⟨hx, hcs⟩, by rw [hls]; rfl, can_ret hsum (retS (z := .bool true) (fun ρ' _ => rfl) rfl)⟩
  | succ d ihd =>
    intro j hd
    have hj : j < p.length := by omega
    refine fun ρ hJ => loop_goesI (ι := Unit) (n := 4000) (g := gW) (Q := QL) (β := ⟨w0, [], GW⟩) noCount noExt (sp5_ok w0) follows rfl (fun _ => N p j) (fun _ ρ => Js most p Ks ρ ∧ Ji p Ks j ρ) (fun ρ => (((Ks j).length : Int) - ρ.I 1).toNat) (fun _ ρ hJ hH hcs hG ih => ?_) () ρ hJ
    obtain ⟨s, hi⟩ := hJ
    by_cases hk : p.getD j false = true ∧ ∃ i : Nat, ρ.I 1 = (i : Int) ∧ i < (Ks j).length
    · obtain ⟨hy, i, e1, hl⟩ := hk
      exact stepN w0 hE hj s hy e1 hl hcs hG fun ρ' h1 h2 => ih () ρ' h1 h2
    · have hx : CRel ρ (fX p j) := by
        unfold fX
        cases hy : p.getD j false with
        | false => exact c0
        | true =>
          obtain ⟨i, e1, e2⟩ := hi hy
          have : ¬ i < (Ks j).length := fun h => hk ⟨hy, i, e1, h⟩
          exact c1 (lssF (varD e1) (varD ((s.st j hj).row hy).2.1) (by omega)) c0
      obtain ⟨fs, hb⟩ := s.fS hG (j := j + 1) (by omega)
      exact enter w0 (by omega) s (CRel_app.2 ⟨CRel_app.2 ⟨hx, fs⟩, hcs⟩) (hE.e3 j _ (by omega) hb) (ihd (j + 1) (by omega))
/-- The law's end, from the rounds' head. -/
theorem finN {n : Nat} {i : Nat} {ρ : Env} (j : Jw n most p Ks i ρ) (hi : n ≤ i) (hcs : CRel ρ (csW p)) (hG : GW.at ρ) : EndN w0 (W p) wb0 wk0 ρ := by
  have h1 := j.p1
  have hil := j.il
  obtain ⟨fs, hb⟩ := j.js.fS hG (j := 0) (by omega)
  exact enter w0 (by omega) j.js (CRel_app.2 ⟨CRel_app.2 ⟨c1 (lssF (varD j.i1) (varD j.r61) (by omega)) c0, fs⟩, hcs⟩) (hE.e1 _ hb) (loopN w0 hE (p.length - 1) 0 (by omega))
end
end La
end Go.Proofs.Ytlcjgmehccopkaa
