/-
  LeastPlays: from rounds to the loop; what holds of the stocks, plainly.
-/
import Derived.Test.YtlcjgmehccopkaaLb1
import Derived.Test.YtlcjgmehccopkaaLa6
namespace Go.Proofs.Ytlcjgmehccopkaa
open Go.Vm Go.Vm.Le
namespace La
open Lp

-- A LOOP WHOSE HEADS ARE MANY
section
variable {P : Program} {β : Base} {f : FuncId} {Q : Value → Prop}
theorem loop_goesI (hc : NoCount P) {E : Exts} (hE : ExtOk P E) {sp : CallF} (hsp : CallOk P β sp) (hm : P.follows .mixedOrders = true) (hown : β.own = []) {g : Gen} {b : Code} {k : List Item} {n : Nat} {ι : Type} (T : ι → Tpl) (J : ι → Env → Prop) (μ : Env → Nat)
    (hs : ∀ i ρ, J i ρ → (∃ w, HRel β ρ (ofP (T i).H) (T i).nl w) → CRel ρ (T i).cs → GP.at β.G ρ → (∀ i' ρ', μ ρ' < μ ρ → J i' ρ' → ∀ todo a w, todo = .inLoop b :: k ∨ todo = .code (.loop b) :: k → SRel β ρ' ((T i').st todo) a w → Goes P f (fun v w' => Q v ∧ Framed β.w0 w') todo a w) →
      ∃ pl Ts cs' sums, CRel ρ cs' ∧ (run P E sp n pl f ((⟨(T i).tm, (T i).nt, (T i).H, (T i).nl, cs', (T i).dep⟩ : Tpl).st (.code b :: .inLoop b :: k))).map (·.filterMap (sumL g Ts)) = some sums ∧ ∀ s ∈ sums, SumGood P β f Q Ts ρ s) :
    ∀ i ρ, J i ρ → ∀ todo a w, todo = .inLoop b :: k ∨ todo = .code (.loop b) :: k → SRel β ρ ((T i).st todo) a w → Goes P f (fun v w' => Q v ∧ Framed β.w0 w') todo a w := by
  suffices H : ∀ N i ρ, μ ρ = N → J i ρ → ∀ todo a w, todo = .inLoop b :: k ∨ todo = .code (.loop b) :: k → SRel β ρ ((T i).st todo) a w → Goes P f (fun v w' => Q v ∧ Framed β.w0 w') todo a w from fun i ρ => H _ i ρ rfl
  intro N
  induction N using Nat.strongRecOn with
  | _ N ih =>
    intro i ρ hN hJ todo a w htd r
    obtain ⟨pl, Ts, cs', sums, hcs', hrun, hss⟩ := hs i ρ hJ ⟨w, r.h⟩ r.c r.h.g fun i' ρ' hlt hJ' todo' a' w' ht' r' => ih (μ ρ') (by omega) i' ρ' rfl hJ' todo' a' w' ht' r'
    obtain ⟨ls, hls, hsum⟩ := Option.map_eq_some_iff.1 hrun
    have key : Goes P f (fun v w' => Q v ∧ Framed β.w0 w') (.code b :: .inLoop b :: k) a w := run_sound hc hE hsp hm n pl f _ ls ρ a w _ hls ⟨r.d, r.n, r.t, r.h, hcs'⟩ (sums_all hown hsum hss)
    rcases htd with rfl | rfl
    · exact Goes.one (fun cs => step_inLoop) key
    · exact Goes.one (fun cs => step_loop) key
theorem lk_can (I : List (Nat × IT)) : ∀ (ks : List Nat) (k : Nat), k ∈ ks → lk (ks.filterMap fun k => (lk I k).map fun t => (k, t)) k = lk I k
  | a :: r, k, h => by
    simp only [List.filterMap_cons]
    by_cases e : a = k
    · subst e
      cases hl : lk I a with
      | some t => simp only [Option.map_some, lk, Nat.beq_refl, cond_true]
      | none =>
        simp only [Option.map_none]
        have none_of : ∀ r : List Nat, lk (r.filterMap fun k => (lk I k).map fun t => (k, t)) a = none := fun r => by
          induction r with
          | nil => rfl
          | cons b r ih =>
            simp only [List.filterMap_cons]
            cases hb : lk I b with
            | none => exact ih
            | some t =>
              simp only [Option.map_some, lk]
              cases hab : Nat.beq b a with
              | true => rw [Nat.eq_of_beq_eq_true hab, hl] at hb; cases hb
              | false => exact ih
        exact none_of r
    · have hr : k ∈ r := by
        rcases List.mem_cons.1 h with h | h
        · exact absurd h.symm e
        · exact h
      have hab : Nat.beq a k = false := by
        cases hb : Nat.beq a k with
        | true => exact absurd (Nat.eq_of_beq_eq_true hb) e
        | false => rfl
      cases hl : lk I a with
      | some t => simp only [Option.map_some, lk, hab, cond_false]; exact lk_can I r k hr
      | none => exact lk_can I r k hr
theorem can_good {g : Gen} {Ts : List Tpl} {ks : List Nat} {ls : List Leaf} {ρ : Env} {q : Nat} {td : List Item} {σc : Sub} (h : ls.filterMap (sumC g Ts ks) = [.next q td [] σc]) (hs : ∀ σ, canS ks σ = σc → SumGood P β f Q Ts ρ (.next q td [] σ)) : ∀ s ∈ ls.filterMap (sumL g Ts), SumGood P β f Q Ts ρ s := by
  intro s hm
  obtain ⟨l, hl, he⟩ := List.mem_filterMap.1 hm
  have hx : sumC g Ts ks l = some (canL ks s.dc) := by simp only [sumC, sumX_of he, Option.map_some]
  have hmem : canL ks s.dc ∈ ls.filterMap (sumC g Ts ks) := List.mem_filterMap.2 ⟨l, hl, hx⟩
  rw [h, List.mem_singleton] at hmem
  cases s with
  | next q' td' cs' σ =>
    simp only [LS.dc, canL, LS.next.injEq] at hmem
    obtain ⟨rfl, rfl, _, hσ⟩ := hmem
    exact SumGood.of_dc (hs σ hσ)
  | ret v cs => cases hmem
  | stop cs => cases hmem
  | bad => cases hmem
end
-- LOOKING UP IN THE ROUND'S END
theorem lk_app {α : Type} (l r : List (Nat × α)) (k : Nat) : lk (l ++ r) k = (lk l k).or (lk r k) := by
  induction l with
  | nil => rfl
  | cons p l ih =>
    obtain ⟨i, x⟩ := p
    simp only [List.cons_append, lk]
    cases Nat.beq i k with
    | true => rfl
    | false => exact ih
theorem lk_map {α : Type} (b : Nat) (f : Nat → α) (k : Nat) : ∀ m s, lk ((List.range' s m).map fun i => (b + i, f i)) k = if b + s ≤ k ∧ k < b + s + m then some (f (k - b)) else none
  | 0, s => by rw [if_neg (by omega)]; rfl
  | m + 1, s => by
    rw [List.range'_succ, List.map_cons]
    simp only [lk]
    cases hb : Nat.beq (b + s) k with
    | true =>
      have := Nat.eq_of_beq_eq_true hb
      rw [if_pos (by omega), cond_true, ← this]
      congr 2; omega
    | false =>
      have : b + s ≠ k := fun e => by rw [e, Nat.beq_refl] at hb; cases hb
      rw [cond_false, lk_map b f k m (s + 1)]
      by_cases h : b + (s + 1) ≤ k ∧ k < b + (s + 1) + m
      · rw [if_pos h, if_pos (by omega)]
      · rw [if_neg h, if_neg (by omega)]
theorem lk_fm {α : Type} (b : Nat) (c : Nat → Bool) (f : Nat → α) (k : Nat) : ∀ m s, lk ((List.range' s m).filterMap fun i => cond (c i) (some (b + i, f i)) none) k = if b + s ≤ k ∧ k < b + s + m ∧ c (k - b) = true then some (f (k - b)) else none
  | 0, s => by rw [if_neg (by omega)]; rfl
  | m + 1, s => by
    rw [List.range'_succ, List.filterMap_cons]
    cases hc : c s with
    | false =>
      simp only [cond_false]
      rw [lk_fm b c f k m (s + 1)]
      by_cases h : b + (s + 1) ≤ k ∧ k < b + (s + 1) + m ∧ c (k - b) = true
      · rw [if_pos h, if_pos ⟨by omega, by omega, h.2.2⟩]
      · rw [if_neg h, if_neg]
        rintro ⟨h1, h2, h3⟩
        refine h ⟨?_, by omega, h3⟩
        rcases Nat.lt_or_ge k (b + (s + 1)) with h4 | h4
        · have : k - b = s := by omega
          rw [this, hc] at h3; cases h3
        · exact h4
    | true =>
      simp only [cond_true, lk]
      cases hb : Nat.beq (b + s) k with
      | true =>
        have := Nat.eq_of_beq_eq_true hb
        have hk : k - b = s := by omega
        rw [if_pos ⟨by omega, by omega, by rw [hk]; exact hc⟩, cond_true, hk]
      | false =>
        have : b + s ≠ k := fun e => by rw [e, Nat.beq_refl] at hb; cases hb
        rw [cond_false, lk_fm b c f k m (s + 1)]
        by_cases h : b + (s + 1) ≤ k ∧ k < b + (s + 1) + m ∧ c (k - b) = true
        · rw [if_pos h, if_pos ⟨by omega, by omega, h.2.2⟩]
        · rw [if_neg h, if_neg]
          rintro ⟨h1, h2, h3⟩
          exact h ⟨by omega, by omega, h3⟩
section
variable {p q : Pat} {w : Wy} (hq : q.length ≤ 4)
theorem newI_eq (k : Nat) : lk (newI p q w) k = (((((if k = 1 then some up1 else none).or (if 40 ≤ k ∧ k < 40 + q.length then some (nBig p w (k - 40)) else none)).or (if 44 ≤ k ∧ k < 44 + q.length ∧ q.getD (k - 44) false = true then some (nRow p w (k - 44)) else none)).or (if 48 ≤ k ∧ k < 48 + q.length then some (nHigh p w (k - 48)) else none)).or (if 52 ≤ k ∧ k < 52 + q.length ∧ q.getD (k - 52) false = true then some (nLen p w (k - 52)) else none)) := by
  unfold newI
  rw [List.range_eq_range', lk_app, lk_app, lk_app, lk_app, lk_map, lk_map, lk_fm 44 (fun i => q.getD i false), lk_fm 52 (fun i => q.getD i false)]
  simp only [Nat.add_zero]
  congr 4
  simp only [lk]
  by_cases h : k = 1
  · subst h; rfl
  · have : Nat.beq 1 k = false := by
      cases hb : Nat.beq 1 k with
      | true => exact absurd (Nat.eq_of_beq_eq_true hb).symm h
      | false => rfl
    rw [this, if_neg h]; rfl
include hq
omit hq in
theorem new_1 : lk (newI p q w) 1 = some up1 := by rw [newI_eq]; rfl
omit hq in
theorem new_big {j : Nat} (h : j < q.length) : lk (newI p q w) (40 + j) = some (nBig p w j) := by
  rw [newI_eq, if_neg (by omega), if_pos (by omega), Nat.add_sub_cancel_left]; rfl
theorem new_row {j : Nat} (h : j < q.length) (hy : q.getD j false = true) : lk (newI p q w) (44 + j) = some (nRow p w j) := by
  rw [newI_eq, if_neg (by omega), if_neg (by omega), Nat.add_sub_cancel_left, if_pos ⟨by omega, by omega, hy⟩]; rfl
theorem new_high {j : Nat} (h : j < q.length) : lk (newI p q w) (48 + j) = some (nHigh p w j) := by
  rw [newI_eq, if_neg (by omega), if_neg (by omega), if_neg (by omega), if_pos (by omega), Nat.add_sub_cancel_left]; rfl
theorem new_len {j : Nat} (h : j < q.length) (hy : q.getD j false = true) : lk (newI p q w) (52 + j) = some (nLen p w j) := by
  rw [newI_eq, if_neg (by omega), if_neg (by omega), if_neg (by omega), if_neg (by omega), Nat.add_sub_cancel_left, if_pos ⟨by omega, by omega, hy⟩]; rfl
theorem new_no {k : Nat} (h : 60 ≤ k) : lk (newI p q w) k = none := by
  rw [newI_eq, if_neg (by omega), if_neg (by omega), if_neg (by omega), if_neg (by omega), if_neg (by omega)]; rfl
end
end La
end Go.Proofs.Ytlcjgmehccopkaa
