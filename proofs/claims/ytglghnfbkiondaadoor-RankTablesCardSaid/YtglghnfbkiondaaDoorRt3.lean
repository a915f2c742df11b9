/-
  RankTables: records, steps, entries, tables, plainly.
-/
import Derived.Test.YtglghnfbkiondaaDoorRk12
import Derived.Test.YtglghnfbkiondaaDoorVm43
import Derived.Lib.ItoaNum
section
namespace Go.Proofs.YtglghnfbkiondaaDoor
open Go.Vm Go.Vm.Rk Go.Vm.Mr
namespace Rt
open Rk

/-- What a slice is: nil, of length 0, or a row. -/
inductive Kd where
  | nil
  | zero
  | row
/-- Records; a kind that is asked for. -/
structure Dt where
  kl : Kd
  x : Int
  n : Nat
  kd : Int
namespace Dt
variable (d : Dt)
def c (i j : Nat) : Int := (decL d.x).getD (i * 16 + j) 0
def ended (i : Nat) : Bool := decide (0 ≤ d.c i 8)
def bad (i : Nat) : Bool := decide (d.c i 11 ≠ 0) || decide (d.c i 9 = 5)
def good (i : Nat) : Bool := d.ended i && !d.bad i
def takes (k a : Int) (i : Nat) : Bool := decide (d.c i 1 = k) && (d.good i && (decide (a < 0) || decide (d.c i 2 = a)))
def stp (k a : Int) : Nat → List Int
  | 0 => []
  | i + 1 => if d.takes k a i = true then stp k a i ++ [d.c i 12] else stp k a i
def steps (k a : Int) : List Int := d.stp k a d.n
theorem stp_le (k a : Int) : ∀ i, (d.stp k a i).length ≤ i
  | 0 => Nat.le_refl _
  | i + 1 => by
    have := stp_le k a i
    unfold stp; split
    · rw [List.length_append]; show (d.stp k a i).length + 1 ≤ _; omega
    · omega
/-- The rows of the map, after so many records. -/
def rows : Nat → Es
  | 0 => []
  | i + 1 => if d.takes 2 (-1) i = true then addE (rows i) (d.c i 2) (d.c i 12) else rows i
end Dt
def rank6 (L : List Int) : List Int := [(L.length : Int), least L, most L, sumW L L.length, mid L, late L]
/-- The map's entries, in some order. -/
def Dt.ents (d : Dt) : Es := (d.rows d.n).map fun p => (p.1, rank6 p.2)
/-- The map's keys, in order. -/
def Dt.keys (d : Dt) : List Int := sortL (d.ents.map (·.1))
theorem sortL_eq {L M : List Int} (h : L.Perm M) : sortL L = sortL M :=
  List.Perm.eq_of_pairwise (le := fun a b => a ≤ b) (fun a b _ _ h1 h2 => by omega) (sortL_sorted L) (sortL_sorted M) ((sortL_perm L).trans (h.trans (sortL_perm M).symm))
theorem sortL_sortL (L : List Int) : sortL (sortL L) = sortL L := sortL_eq (sortL_perm L)
theorem sumW_perm {L M : List Int} (h : L.Perm M) : ∀ i, sumW L i = sumW M i
  | 0 => rfl
  | i + 1 => by rw [sumW, sumW, sumW_perm h i, sortL_eq h]
theorem rank6_perm {L M : List Int} (h : L.Perm M) : rank6 L = rank6 M := by
  have e := sortL_eq h
  have l := h.length_eq
  unfold rank6 least most mid late
  rw [e, l, sumW_perm h]
theorem rank6_sort (L : List Int) : rank6 (sortL L) = rank6 L := rank6_perm (sortL_perm L)
-- ENTRIES
theorem getE_putE {es : Es} {k a : Int} {L : List Int} : getE (putE es k L) a = if a = k then some L else getE es a := by
  induction es with
  | nil =>
    simp only [putE, getE]
    by_cases h : k = a
    · subst h; simp
    · simp [h, Ne.symm h]
  | cons p r ih =>
    obtain ⟨b, M⟩ := p
    simp only [putE]
    by_cases h : b = k
    · subst h
      simp only [if_true, getE]
      by_cases h2 : b = a
      · subst h2; simp
      · simp [h2, Ne.symm h2]
    · simp only [if_neg h, getE, ih]
      by_cases h2 : b = a
      · subst h2; simp [h]
      · simp [h2]
theorem getE_addE {es : Es} {k v a : Int} : getE (addE es k v) a = if a = k then some ((getE es k).getD [] ++ [v]) else getE es a := getE_putE
theorem addE_nodup {es : Es} {k v : Int} (h : (es.map (·.1)).Nodup) : ((addE es k v).map (·.1)).Nodup := putE_nodup h
theorem getE_map {f : List Int → List Int} : ∀ {es : Es} {k : Int}, getE (es.map fun p => (p.1, f p.2)) k = (getE es k).map f
  | [], _ => rfl
  | (a, M) :: r, k => by
    simp only [List.map_cons, getE]
    by_cases h : a = k
    · simp [h]
    · simp only [if_neg h]; exact getE_map
theorem getE_iff {es : Es} (hn : (es.map (·.1)).Nodup) {k : Int} {L : List Int} : getE es k = some L ↔ (k, L) ∈ es :=
  ⟨getE_mem, fun h => by
    obtain ⟨i, hi⟩ := List.getElem?_of_mem h
    exact getE_at hn hi⟩
theorem getE_perm {es fs : Es} (h : es.Perm fs) (hn : (es.map (·.1)).Nodup) (k : Int) : getE es k = getE fs k := by
  have hm : (fs.map (·.1)).Nodup := (h.map (·.1)).nodup_iff.1 hn
  cases he : getE es k with
  | some L => exact ((getE_iff hm).2 (h.mem_iff.1 ((getE_iff hn).1 he))).symm
  | none =>
    cases hf : getE fs k with
    | none => rfl
    | some L =>
      have := (getE_iff hn).2 (h.mem_iff.2 ((getE_iff hm).1 hf))
      rw [he] at this; cases this
namespace Dt
variable (d : Dt)
theorem rows_nodup : ∀ i, ((d.rows i).map (·.1)).Nodup
  | 0 => List.nodup_nil
  | i + 1 => by
    have := rows_nodup i
    unfold rows; split
    · exact addE_nodup this
    · exact this
theorem rows_get (a : Int) (ha : 0 ≤ a) : ∀ i, getE (d.rows i) a = if d.stp 2 a i = [] then none else some (d.stp 2 a i)
  | 0 => rfl
  | i + 1 => by
    have ih := rows_get a ha i
    unfold rows stp
    by_cases h : d.takes 2 (-1) i = true
    · rw [if_pos h, getE_addE]
      by_cases e : a = d.c i 2
      · have h2 : d.takes 2 a i = true := by
          unfold takes at h ⊢
          simp only [Bool.and_eq_true] at h
          rw [h.1, h.2.1, e]; simp
        rw [if_pos e, if_pos h2, if_neg (by simp), ← e, ih]
        split
        · rename_i h3; rw [h3]; rfl
        · rfl
      · have h2 : ¬ d.takes 2 a i = true := by
          unfold takes
          intro h3
          simp only [Bool.and_eq_true, Bool.or_eq_true, decide_eq_true_eq] at h3
          rcases h3.2.2 with h4 | h4
          · omega
          · exact e h4.symm
        rw [if_neg e, if_neg h2, ih]
    · have h2 : ¬ d.takes 2 a i = true := by
        unfold takes at h ⊢
        intro h3
        simp only [Bool.and_eq_true] at h3
        exact h (by rw [h3.1, h3.2.1]; rfl)
      rw [if_neg h, if_neg h2, ih]
theorem rows_len (i : Nat) : (d.rows i).length ≤ i := by
  induction i with
  | zero => exact Nat.le_refl _
  | succ i ih =>
    unfold rows; split
    · unfold addE
      cases hg : getE (d.rows i) (d.c i 2) with
      | none => rw [putE_new hg, List.length_append]; show (d.rows i).length + 1 ≤ _; omega
      | some M =>
        have := congrArg List.length (putE_keys (L := (some M).getD [] ++ [d.c i 12]) hg)
        rw [List.length_map, List.length_map] at this
        omega
    · omega
/-- The rows hold one number for each record taken, and none is empty. -/
theorem rows_all (P : Int → Prop) (Q : Int → Prop) : ∀ i, (∀ j, j < i → d.takes 2 (-1) j = true → P (d.c j 12) ∧ Q (d.c j 2)) → ∀ p ∈ d.rows i, p.2 ≠ [] ∧ p.2.length ≤ i ∧ (∀ v ∈ p.2, P v) ∧ Q p.1
  | 0, _, p, hp => by cases hp
  | i + 1, h, p, hp => by
    have ih := rows_all P Q i fun j hj => h j (by omega)
    unfold rows at hp
    by_cases ht : d.takes 2 (-1) i = true
    · rw [if_pos ht] at hp
      have hpq := h i (by omega) ht
      rcases mem_putE (d.rows_nodup i) hp with rfl | ⟨hp, _⟩
      · refine ⟨by simp, ?_, fun v hv => ?_, hpq.2⟩
        · cases hg : getE (d.rows i) (d.c i 2) with
          | none => simp
          | some M =>
            have := (ih _ (getE_mem hg)).2.1
            simp only [Option.getD_some, List.length_append]; simp only at this; show M.length + 1 ≤ _; omega
        · simp only [List.mem_append, List.mem_singleton] at hv
          rcases hv with hv | rfl
          · cases hg : getE (d.rows i) (d.c i 2) with
            | none => rw [hg] at hv; cases hv
            | some M => rw [hg] at hv; exact (ih _ (getE_mem hg)).2.2.1 v hv
          · exact hpq.1
      · obtain ⟨a, b, c, e⟩ := ih p hp
        exact ⟨a, by omega, c, e⟩
    · rw [if_neg ht] at hp
      obtain ⟨a, b, c, e⟩ := ih p hp
      exact ⟨a, by omega, c, e⟩
theorem ents_nodup : (d.ents.map (·.1)).Nodup := by
  have := d.rows_nodup d.n
  unfold ents
  rwa [List.map_map]
theorem ents_get (a : Int) (ha : 0 ≤ a) : getE d.ents a = if d.steps 2 a = [] then none else some (rank6 (d.steps 2 a)) := by
  unfold ents
  rw [getE_map, d.rows_get a ha]
  unfold steps
  split <;> rfl
end Dt
-- TEXTS
def wordT : Nat → List UInt8
  | 0 => [106, 111, 105, 110]
  | 1 => [105, 110, 118, 111, 107, 101]
  | 2 => [108, 101, 97, 118, 101]
  | 3 => [97, 100, 111, 112, 116]
  | _ => []
def nameT : Nat → List UInt8
  | 0 => [110, 111, 110, 101]
  | 1 => [101, 110, 113, 117, 101, 117, 101]
  | 2 => [100, 101, 113, 117, 101, 117, 101]
  | 3 => [108, 101, 110, 103, 116, 104]
  | 4 => [103, 101, 116]
  | 5 => [112, 117, 116]
  | 6 => [100, 101, 108, 101, 116, 101]
  | 7 => [115, 119, 97, 112]
  | 8 => [115, 105, 122, 101]
  | 9 => [102, 108, 111, 111, 114]
  | 10 => [115, 101, 116]
  | 11 => [97, 99, 113, 117, 105, 114, 101]
  | 12 => [114, 101, 108, 101, 97, 115, 101]
  | 13 => [118, 97, 108, 117, 101]
  | 14 => [100, 114, 111, 112]
  | _ => []
/-- A line of a table, behind its word. -/
def lineT (R : List Int) : List UInt8 := [58, 32] ++ Lib.itoa (R.getD 0 0) ++ [32] ++ Lib.itoa (R.getD 1 0) ++ [32] ++ Lib.itoa (R.getD 4 0) ++ [32] ++ Lib.itoa (R.getD 5 0) ++ [32] ++ Lib.itoa (R.getD 2 0) ++ [10]
namespace Dt
variable (d : Dt)
def lineS (k a : Int) : List UInt8 := lineT (rank6 (d.steps k a))
def oneA (i : Nat) : List UInt8 := if d.steps ((i : Int) + 1) (-1) = [] then [] else wordT i ++ d.lineS ((i : Int) + 1) (-1)
def tabA : Nat → List UInt8
  | 0 => []
  | i + 1 => tabA i ++ d.oneA i
def oneC (c : Nat) : List UInt8 := if d.steps 2 (c : Int) = [] then [] else nameT c ++ d.lineS 2 (c : Int)
def tabC : Nat → List UInt8
  | 0 => d.tabA 4
  | c + 1 => tabC c ++ d.oneC c
def tabK : Nat → List UInt8
  | 0 => d.tabA 4
  | i + 1 => tabK i ++ (nameT (d.keys.getD i 0).toNat ++ d.lineS 2 (d.keys.getD i 0))
end Dt
end Rt
end Go.Proofs.YtglghnfbkiondaaDoor
end

/-
  RankTables (1): contracts over given names; loops.
-/
section
namespace Go.Proofs.YtglghnfbkiondaaDoor
open Go.Vm Go.Vm.Rk Go.Vm.Mr
namespace Rt
open Rk

-- CONTRACTS OVER GIVEN NAMES
def hasE (E : List (Nat × ABlk)) (H : Heap) : Bool := E.all fun p => match H.get p.1 with
  | some k => ABlk.beq k.k p.2
  | none => false
theorem rel_ro {ρ : Env} {k : ABlk} {o : Obj} {rw : Bool} (h : k.rel ρ rw o) : k.rel ρ false o := by
  cases k with
  | arr t ks elem n off cp =>
    obtain ⟨xs, c, fr, el, m, b, ho, hel, hd, hb, hp, hn, ht, hr, hf⟩ := h
    exact ⟨xs, c, fr, el, m, b, ho, (fun e => by cases e), hd, hb, hp, hn, ht, hr, fun e => by cases e⟩
  | cells vals elem tail =>
    obtain ⟨xs, c, fr, ho, hd, hp, ht, hf⟩ := h
    exact ⟨xs, c, fr, ho, hd, hp, ht, fun e => by cases e⟩
  | map es clock => exact h
  | srow ct elem n cp =>
    obtain ⟨x, c, fr, el, ho, hel, hx, hp, hn, hr, hf⟩ := h
    exact ⟨x, c, fr, el, ho, (fun e => by cases e), hx, hp, hn, hr, fun e => by cases e⟩
  | mapc ct => exact h
  | big k c => exact h
  | iter l since seen last => exact h
section
variable {β : Base} {ρ : Env} {H : Heap} {nl : Nat} {w : World}
theorem ofE (hh : HRel β ρ H nl w) {E : List (Nat × ABlk)} (h : hasE E H = true) {B : Nat} (hn : nl ≤ B) (hnb : (E.all fun p => p.2.nb) = true) : HRel ⟨w, [], β.G⟩ ρ (ofP (roH E)) B w :=
  HRel.ro E (fun p hp => by
    have h1 := List.all_eq_true.1 h p hp
    split at h1
    · rename_i k hk
      obtain ⟨b, o, hb, ho, hr⟩ := hh.blk _ _ hk
      rw [ABlk.beq_eq h1] at hr
      exact ⟨b, o, hb, ho, rel_ro hr⟩
    · cases h1) (fun i hi => hh.fresh i (by omega)) hh.g hnb
def lookC (C cs : Cs) : Bool := C.all fun p => match lookB cs p.1 with
  | some b => cond b p.2 (!p.2)
  | none => false
theorem lookC_ok {C cs : Cs} (h : lookC C cs = true) (hc : CRel ρ cs) : CRel ρ C := fun p hp => by
  have h1 := List.all_eq_true.1 h p hp
  split at h1
  · rename_i b hb
    have := lookB_ok hb hc
    rw [this]
    cases b <;> cases hq : p.2 <;> simp_all
  · cases h1
/-- A function that answers out of what is there: these arguments, these blocks, under these conditions. -/
def spE (B : Nat) (A : List AVal) (E : List (Nat × ABlk)) (C : Cs) (u : AVal) : SpG := fun args H nl cs =>
  cond (AVal.beqL args A && (hasE E H && (Nat.ble nl B && lookC C cs))) (some [.ret u H nl cs]) none
theorem spE_ok {B : Nat} {P : Program} {β : Base} {g : FuncId} {A : List AVal} {E : List (Nat × ABlk)} {C : Cs} {u : AVal} (hnb : (E.all fun p => p.2.nb) = true)
    (h : ∀ ρ w xs, AVal.denL ρ A = some xs → HRel ⟨w, [], β.G⟩ ρ (ofP (roH E)) B w → CRel ρ C → ∃ v, u.den ρ = some v ∧ Calls P g xs.toArray w fun e w' => e = .returned v ∧ Framed w w') : SpGOk P β g (spE B A E C u) := by
  intro args H nl cs ls ρ w xs hr hx hh hc
  unfold spE at hr
  cases hb : (AVal.beqL args A && (hasE E H && (Nat.ble nl B && lookC C cs))) with
  | false => rw [hb] at hr; cases hr
  | true =>
    rw [hb] at hr; simp only [cond_true, Option.some.injEq] at hr
    subst hr
    simp only [Bool.and_eq_true] at hb
    obtain ⟨h1, h2, h3, h4⟩ := hb
    obtain rfl := AVal.beqL_eq _ _ h1
    obtain ⟨v, hu, hcall⟩ := h ρ w xs hx (ofE hh h2 (Nat.le_of_ble_eq_true h3) hnb) (lookC_ok h4 hc)
    exact spV_ok hcall hu hh hc
/-- A function that hands out a new row. -/
def spRow (B : Nat) (A : List AVal) (E : List (Nat × ABlk)) (C : Cs) (nT c : IT) (e : TypeId) (ks : List IntKind) : SpG := fun args H nl cs =>
  cond (AVal.beqL args A && (hasE E H && (Nat.ble nl B && lookC C cs))) (some [.ret (.slice (nl + 1) (.lit 0) nT (.nv nl)) (H.set (nl + 1) ⟨.arr (.code ks c) ks e nT (.lit 0) (some (.nv nl)), true⟩) (nl + 2) cs]) none
theorem spRow_ok {B : Nat} {P : Program} {β : Base} {g : FuncId} {A : List AVal} {E : List (Nat × ABlk)} {C : Cs} {nT c : IT} {e : TypeId} {ks : List IntKind} (hnb : (E.all fun p => p.2.nb) = true)
    (h : ∀ ρ w xs, AVal.denL ρ A = some xs → HRel ⟨w, [], β.G⟩ ρ (ofP (roH E)) B w → CRel ρ C → ∃ L, ∃ m : Nat, nT.den ρ = some (m : Int) ∧ c.den ρ = some (encL L) ∧ Calls P g xs.toArray w fun e' w' => ∃ v, e' = .returned v ∧ RowOut w w' v e ks L m) : SpGOk P β g (spRow B A E C nT c e ks) := by
  intro args H nl cs ls ρ w xs hr hx hh hc
  unfold spRow at hr
  cases hb : (AVal.beqL args A && (hasE E H && (Nat.ble nl B && lookC C cs))) with
  | false => rw [hb] at hr; cases hr
  | true =>
    rw [hb] at hr; simp only [cond_true, Option.some.injEq] at hr
    subst hr
    simp only [Bool.and_eq_true] at hb
    obtain ⟨h1, h2, h3, h4⟩ := hb
    obtain rfl := AVal.beqL_eq _ _ h1
    obtain ⟨L, m, hn, hcd, hcall⟩ := h ρ w xs hx (ofE hh h2 (Nat.le_of_ble_eq_true h3) hnb) (lookC_ok h4 hc)
    refine hcall.mono fun e' w' ⟨v, he, ro⟩ => ?_
    obtain ⟨ρ', hle, hd, hr'⟩ := row_in hh ro hn hcd
    exact ⟨v, he, _, _, _, _, ρ', List.mem_cons_self, hle, hd, hr', hc.mono hle⟩
end
-- THE ARGUMENTS
def Kd.v (l n o c : Nat) : Kd → AVal
  | .nil => .sliceNil
  | .zero => .slice l (.var o) (.lit 0) (.var c)
  | .row => .slice l (.var o) (.var n) (.var c)
def Kd.blk (l : Nat) (b : ABlk) : Kd → List (Nat × ABlk)
  | .row => [(l, b)]
  | _ => []
def SL (k : Kd) : AVal := k.v 0 36 62 63
def ksR : List IntKind := [.i64, .i64, .i64, .i64, .i64, .i64, .i64, .i64, .i64, .i64, .i64, .i64, .i64, .i64, .i64, .u64]
def bL : ABlk := .arr (.code ksR (.var 35)) ksR 41 (.var 36) (.var 62) none
def EL (k : Kd) : List (Nat × ABlk) := k.blk 0 bL
theorem nb_EL (k : Kd) : ((EL k).all fun p => p.2.nb) = true := by cases k <;> rfl
def csL : Kd → Cs
  | .row => [(.cmp .geq (.var 36) (.lit 1), true), (.cmp .leq (.var 36) (.lit 100), true), (.cmp .leq (.var 36) (.lit 1000000), true)]
  | _ => []
/-- What the arguments are. -/
structure DOk (d : Dt) : Prop where
  lx : (decL d.x).length = d.n * 16
  n100 : d.n ≤ 100
  kl : match d.kl with
    | .row => 1 ≤ d.n
    | _ => d.n = 0
  ran : ∀ i j, i < d.n → j < 15 → Ran (d.c i j)
/-- Texts under names. -/
def textD (d : Dt) (k : Nat) (x y : Int) : List UInt8 := if k = 1 then Lib.itoa x else if k = 5 then d.lineS x y else if k = 6 then nameT x.toNat else if k = 7 then d.tabC 15 else []
theorem zigN_inj {a b : Int} (h : zigN a = zigN b) : a = b := by
  cases a <;> cases b <;> simp only [zigN] at h
  · rename_i m n; rw [show m = n by omega]
  · omega
  · omega
  · rename_i m n; rw [show m = n by omega]
theorem two_step (j t : Nat) : 2 ^ (j + 1) * t = 2 * (2 ^ j * t) := by rw [Nat.pow_succ, Nat.mul_comm (2 ^ j) 2, Nat.mul_assoc]
theorem two_inj : ∀ {i j u v : Nat}, 2 ^ i * (2 * u + 1) = 2 ^ j * (2 * v + 1) → i = j ∧ u = v
  | 0, 0, u, v, h => by simp only [Nat.pow_zero, Nat.one_mul] at h; omega
  | 0, j + 1, u, v, h => by
    rw [two_step, Nat.pow_zero, Nat.one_mul] at h
    generalize 2 ^ j * (2 * v + 1) = t at h
    omega
  | i + 1, 0, u, v, h => by
    rw [two_step, Nat.pow_zero, Nat.one_mul] at h
    generalize 2 ^ i * (2 * u + 1) = t at h
    omega
  | i + 1, j + 1, u, v, h => by
    rw [two_step, two_step] at h
    have := two_inj (Nat.eq_of_mul_eq_mul_left (by omega) h)
    omega
/-- A pair, as a number. -/
def prI (a b : Int) : Int := ((2 ^ zigN a * (2 * zigN b + 1) : Nat) : Int)
theorem codN_inj {k k' : Nat} {x y x' y' : Int} (h : codN k x y = codN k' x' y') : k = k' ∧ x = x' ∧ y = y' := by
  unfold codN at h
  obtain ⟨h1, h2⟩ := two_inj (Nat.add_left_cancel h)
  obtain ⟨h3, h4⟩ := two_inj h2
  exact ⟨h1, zigN_inj h3, zigN_inj h4⟩
open Classical in
noncomputable def Sd (d : Dt) : Nat → ByteArray := fun n => if h : ∃ q : Nat × Int × Int, n = codN q.1 q.2.1 q.2.2 then ⟨(textD d h.choose.1 h.choose.2.1 h.choose.2.2).toArray⟩ else default
theorem Sd_cod (d : Dt) (k : Nat) (x y : Int) : Sd d (codN k x y) = ⟨(textD d k x y).toArray⟩ := by
  have h : ∃ q : Nat × Int × Int, codN k x y = codN q.1 q.2.1 q.2.2 := ⟨(k, x, y), rfl⟩
  unfold Sd
  rw [dif_pos h]
  obtain ⟨h1, h2, h3⟩ := codN_inj h.choose_spec
  rw [← h1, ← h2, ← h3]
/-- Has every record's operation a code? -/
def cdB (d : Dt) : Bool := (List.range d.n).all fun i => decide (0 ≤ d.c i 2) && decide (d.c i 2 < 15)
/-- The names. -/
def pins (d : Dt) : List (Nat × Int) := [(33, if cdB d then 1 else 0), (34, d.kd), (35, d.x), (36, d.n), (37, (d.keys.length : Nat)), (38, encL d.keys), (39, codeE d.ents)]
def f77 (d : Dt) (k a : Int) : Int := ((d.steps k a).length : Nat)
def f78 (d : Dt) (k a : Int) : Int := encL (sortL (d.steps k a))
def Gd (d : Dt) : GP := fun I B S V F => (∀ p ∈ pins d, I p.1 = p.2) ∧ GR I B S V F ∧ F 77 = f77 d ∧ F 78 = f78 d ∧ (∀ k x y, S (codN k x y) = ⟨(textD d k x y).toArray⟩) ∧ (GMr I B S V F ∧ GRg I B S V F) ∧ F 66 = fPut ∧ F 73 = fSmall
noncomputable def Fd (d : Dt) : Nat → Int → Int → Int := fun k => if k = 77 then f77 d else if k = 78 then f78 d else if k = 60 then fHas else if k = 61 then fRow else if k = 62 then fLen else if k = 63 then fUpd else if k = 64 then fAll else if k = 65 then fKey else if k = 66 then fPut else if k = 73 then fSmall else FR k
def Id (d : Dt) : Nat → Int := fun i => match lk (pins d) i with
  | some x => x
  | none => 0
theorem pins30 (d : Dt) : ∀ p ∈ pins d, 30 ≤ p.1 := fun p hp => by
  have h : ((pins d).all fun p => Nat.ble 30 p.1) = true := rfl
  exact Nat.le_of_ble_eq_true (List.all_eq_true.1 h p hp)
theorem Gd.gr {d : Dt} {I B S V F} (h : Gd d I B S V F) : GR I B S V F := h.2.1
section
variable {d : Dt} {ρ : Env}
theorem pin (h : (Gd d).at ρ) {i : Nat} {x : Int} (hp : (i, x) ∈ pins d) : (IT.var i).den ρ = some x := varD (h.1 _ hp)
theorem pX (h : (Gd d).at ρ) : (IT.var 35).den ρ = some d.x := pin h (by simp [pins])
theorem pN (h : (Gd d).at ρ) : (IT.var 36).den ρ = some (d.n : Int) := pin h (by simp [pins])
theorem pK (h : (Gd d).at ρ) : (IT.var 34).den ρ = some d.kd := pin h (by simp [pins])
theorem gKeep {σ : Sub} (hs : (σ.I.all fun p => Nat.blt p.1 30) = true) (h : (Gd d).at ρ) : (Gd d).at (σ.app ρ) := by
  have key : ∀ i, 30 ≤ i → (σ.app ρ).I i = ρ.I i := fun i hi => by
    have : lk σ.I i = none := by
      cases hl : lk σ.I i with
      | none => rfl
      | some t =>
        have h1 := List.all_eq_true.1 hs _ (lk_mem hl)
        rw [Nat.blt_eq] at h1
        simp only at h1; omega
    simp only [Sub.app, this]
  refine ⟨fun p hp => ?_, h.2.1, h.2.2.1, h.2.2.2.1, fun k x y => ?_, h.2.2.2.2.2⟩
  · have h30 := pins30 d p hp
    have := key p.1 h30
    rw [this]; exact h.1 p hp
  · rw [app_cod]; exact h.2.2.2.2.1 k x y
theorem dcL (ok : DOk d) (h : (Gd d).at ρ) : CRel ρ (csL d.kl) := by
  have hk := ok.kl; have := ok.n100
  cases hd : d.kl <;> rw [hd] at hk
  · exact c0
  · exact c0
  · simp only at hk
    exact c1 (geqT (pN h) (litD 1) (by omega)) (c1 (leqT (pN h) (litD 100) (by omega)) (c1 (leqT (pN h) (litD _) (by omega)) c0))
-- CELLS
/-- A cell of a record. -/
def rT (a : IT) (j : Nat) : IT := .un 0 (.var 35) (.elem (.lit 0) 16 j a)
theorem rT_den (h : (Gd d).at ρ) {a : IT} {i : Nat} (ha : a.den ρ = some (i : Int)) (j : Nat) : (rT a j).den ρ = some (d.c i j) := by
  refine (unD (pX h) (elemD (sz := 16) (j := j) (litD ((0 : Nat) : Int)) ha)).trans ?_
  show some ((decL d.x).getD (((0 + (i * 16 + j) : Nat) : Int)).toNat 0) = _
  rw [Int.toNat_natCast, Nat.zero_add]; rfl
theorem fn_den (h : (Gd d).at ρ) {k : Nat} {p q : PT} {x y : Int} (hp : p.den ρ = x) (hq : q.den ρ = y) (hl : (textD d k x y).length ≤ 1000000) : (ST.fn k p q).den ρ = ⟨(textD d k x y).toArray⟩ := by
  simp only [ST.den, hp, hq, h.2.2.2.2.1]
  refine cutM_eq ?_
  show (textD d k x y).toArray.size ≤ _
  simpa using hl
end
theorem snoc_den {ρ : Env} {t u : IT} {L : List Int} {x : Int} (h : t.den ρ = some (encL L)) (g : u.den ρ = some x) : (IT.un 3 t u).den ρ = some (encL (L ++ [x])) := by
  rw [unD h g]
  show some (encL (decL (encL L) ++ [x])) = _
  rw [decL_encL]
theorem nil_den {ρ : Env} : (IT.lit 0).den ρ = some (encL []) := rfl
-- LOOPS
noncomputable def lb (fn : Func) (j : Nat) : Code := ((loopsOf (fn.body.getD .ret) []).getD j (.ret, [])).1
noncomputable def lq (fn : Func) (j : Nat) : List Item := ((loopsOf (fn.body.getD .ret) []).getD j (.ret, [])).2
/-- A round, from a head; a call, from the beginning. -/
noncomputable def RH (sp : CallF) (f : FuncId) (fn : Func) (j : Nat) (Ts : List Tpl) (T : Tpl) (c : Cs) (l : List LS) : Prop := (run Tryd.prog [] sp 4000 true f ((⟨T.tm, T.nt, T.H, T.nl, c ++ T.cs, T.dep⟩ : Tpl).st (.code (lb fn j) :: .inLoop (lb fn j) :: lq fn j))).map (·.filterMap (sumD gM Ts)) = some l
noncomputable def RC (sp : CallF) (f : FuncId) (fn : Func) (Ts : List Tpl) (args : List AVal) (H : Heap) (cs : Cs) (l : List LS) : Prop := (run Tryd.prog [] sp 4000 true f (entry fn (fn.body.getD .ret) args H 500 cs)).map (·.filterMap (sumD gM Ts)) = some l
noncomputable def RCn (nl : Nat) (sp : CallF) (f : FuncId) (fn : Func) (Ts : List Tpl) (args : List AVal) (H : Heap) (cs : Cs) (l : List LS) : Prop := (run Tryd.prog [] sp 4000 true f (entry fn (fn.body.getD .ret) args H nl cs)).map (·.filterMap (sumD gM Ts)) = some l
section
variable {β : Base} {sp : CallF} {f : FuncId} {fn : Func} {j : Nat} {T : Tpl} {Ts : List Tpl}
/-- What the ends of a round come to. -/
theorem scan (hsp : CallOk Tryd.prog β sp) (hown : β.own = []) {Q : Value → Prop} (J : Env → Prop) (μ : Env → Nat)
    (hs : ∀ ρ, J ρ → GP.at β.G ρ → CRel ρ T.cs → (∃ w, HRel β ρ (ofP T.H) T.nl w) → (∀ ρ', μ ρ' < μ ρ → J ρ' → ∀ todo a w, todo = .inLoop (lb fn j) :: lq fn j ∨ todo = .code (.loop (lb fn j)) :: lq fn j → SRel β ρ' (T.st todo) a w → Goes Tryd.prog f (fun v w' => Q v ∧ Framed β.w0 w') todo a w) → ∃ c sums, CRel ρ c ∧ RH sp f fn j Ts T c sums ∧ ∀ s ∈ sums, SumGood Tryd.prog β f Q Ts ρ s) :
    ∀ ρ, J ρ → ∀ todo a w, todo = .inLoop (lb fn j) :: lq fn j ∨ todo = .code (.loop (lb fn j)) :: lq fn j → SRel β ρ (T.st todo) a w → Goes Tryd.prog f (fun v w' => Q v ∧ Framed β.w0 w') todo a w :=
  loop_goesD (P := Tryd.prog) (Q := Q) (Ts := Ts) (n := 4000) (g := gM) (pl := true) noCount noExt hsp follows hown J μ fun ρ hJ hH hcs hG ih => by
    obtain ⟨c, sums, h1, h2, h3⟩ := hs ρ hJ hG hcs hH ih
    exact ⟨c ++ T.cs, sums, CRel_app.2 ⟨h1, hcs⟩, h2, h3⟩
theorem callS (hsp : CallOk Tryd.prog β sp) (hown : β.own = []) {Q : Value → Prop} {args : List AVal} {xs : List Value} {H : Heap} {cs : Cs} {ρ : Env} {w : World} {sums : List LS} (hf : Tryd.prog.funcs[f]? = some fn) (hb : fn.body = some (fn.body.getD .ret))
    (hrun : RC sp f fn Ts args H cs sums) (hx : AVal.denL ρ args = some xs) (hr : HRel β ρ H 500 w) (hc : CRel ρ cs) (h : ∀ s ∈ sums, SumGood Tryd.prog β f Q Ts ρ s) :
    Calls Tryd.prog f xs.toArray w fun e w' => ∃ v, e = .returned v ∧ Q v ∧ Framed β.w0 w' :=
  calls_sumsD (g := gM) (Ts := Ts) (pl := true) noCount noExt hsp follows hown hf hb hrun hx hr hc h
theorem callSn (hsp : CallOk Tryd.prog β sp) (hown : β.own = []) {Q : Value → Prop} {nl : Nat} {args : List AVal} {xs : List Value} {H : Heap} {cs : Cs} {ρ : Env} {w : World} {sums : List LS} (hf : Tryd.prog.funcs[f]? = some fn) (hb : fn.body = some (fn.body.getD .ret))
    (hrun : RCn nl sp f fn Ts args H cs sums) (hx : AVal.denL ρ args = some xs) (hr : HRel β ρ H nl w) (hc : CRel ρ cs) (h : ∀ s ∈ sums, SumGood Tryd.prog β f Q Ts ρ s) :
    Calls Tryd.prog f xs.toArray w fun e w' => ∃ v, e = .returned v ∧ Q v ∧ Framed β.w0 w' :=
  calls_sumsD (g := gM) (Ts := Ts) (pl := true) noCount noExt hsp follows hown hf hb hrun hx hr hc h
theorem toE {v : Value} {xs : List Value} {w w0 : World} (h : Calls Tryd.prog f xs.toArray w fun e w' => ∃ x, e = .returned x ∧ x = v ∧ Framed w0 w') : Calls Tryd.prog f xs.toArray w fun e w' => e = .returned v ∧ Framed w0 w' :=
  h.mono fun _ _ ⟨_, he, hv, hf⟩ => ⟨by rw [he, hv], hf⟩
end
-- LOOPS WITH MEMORY
noncomputable def RHM (sp : CallF) (f : FuncId) (fn : Func) (j : Nat) (Rs Ts : List Tpl) (T : Tpl) (c : Cs) (l : List LM) : Prop := (run Tryd.prog [] sp 4000 true f ((⟨T.tm, T.nt, T.H, T.nl, c ++ T.cs, T.dep⟩ : Tpl).st (.code (lb fn j) :: .inLoop (lb fn j) :: lq fn j))).map (·.filterMap (sumMD gM [] Rs Ts)) = some l
noncomputable def RCM (sp : CallF) (f : FuncId) (fn : Func) (Rs Ts : List Tpl) (args : List AVal) (H : Heap) (cs : Cs) (l : List LM) : Prop := (run Tryd.prog [] sp 4000 true f (entry fn (fn.body.getD .ret) args H 500 cs)).map (·.filterMap (sumMD gM [] Rs Ts)) = some l
section
variable {β : Base} {sp : CallF} {f : FuncId} {fn : Func} {j : Nat} {Rs Ts : List Tpl} {R : Value → World → Prop} {ι : Type} {T : ι → Tpl}
theorem scanM (hsp : CallOk Tryd.prog β sp) (J : ι → Env → Prop) (μ : Env → Nat)
    (hs : ∀ z ρ, J z ρ → GP.at β.G ρ → CRel ρ (T z).cs → (∀ z' ρ', μ ρ' < μ ρ → J z' ρ' → ∀ todo a w, todo = .inLoop (lb fn j) :: lq fn j ∨ todo = .code (.loop (lb fn j)) :: lq fn j → SRel β ρ' ((T z').st todo) a w → Goes Tryd.prog f R todo a w) → ∃ c sums, CRel ρ c ∧ RHM sp f fn j Rs Ts (T z) c sums ∧ ∀ s ∈ sums, MGoodO Tryd.prog β f R Rs Ts ρ s) :
    ∀ z ρ, J z ρ → ∀ todo a w, todo = .inLoop (lb fn j) :: lq fn j ∨ todo = .code (.loop (lb fn j)) :: lq fn j → SRel β ρ ((T z).st todo) a w → Goes Tryd.prog f R todo a w := by
  suffices H : ∀ N z ρ, μ ρ = N → J z ρ → ∀ todo a w, todo = .inLoop (lb fn j) :: lq fn j ∨ todo = .code (.loop (lb fn j)) :: lq fn j → SRel β ρ ((T z).st todo) a w → Goes Tryd.prog f R todo a w from fun z ρ => H _ z ρ rfl
  intro N
  induction N using Nat.strongRecOn with
  | _ N ih =>
    intro z ρ hN hJ todo a w htd r
    obtain ⟨c, sums, h1, h2, h3⟩ := hs z ρ hJ r.h.g r.c fun z' ρ' hlt hJ' todo' a' w' ht' r' => ih (μ ρ') (by omega) z' ρ' rfl hJ' todo' a' w' ht' r'
    obtain ⟨ls, hls, hsum⟩ := Option.map_eq_some_iff.1 h2
    have key : Goes Tryd.prog f R (.code (lb fn j) :: .inLoop (lb fn j) :: lq fn j) a w := run_sound noCount noExt hsp follows 4000 true f _ ls ρ a w _ hls ⟨r.d, r.n, r.t, r.h, CRel_app.2 ⟨h1, r.c⟩⟩ (m_allO (g := gM) (L := []) (sums := ls.filterMap (sumMO gM [] Rs Ts)) rfl (dcsM hsum h3))
    rcases htd with rfl | rfl
    · exact Goes.one (fun cs => step_inLoop) key
    · exact Goes.one (fun cs => step_loop) key
theorem callM (hsp : CallOk Tryd.prog β sp) {args : List AVal} {xs : List Value} {H : Heap} {cs : Cs} {ρ : Env} {w : World} {sums : List LM} (hf : Tryd.prog.funcs[f]? = some fn) (hb : fn.body = some (fn.body.getD .ret))
    (hrun : RCM sp f fn Rs Ts args H cs sums) (hx : AVal.denL ρ args = some xs) (hr : HRel β ρ H 500 w) (hc : CRel ρ cs) (h : ∀ s ∈ sums, MGoodO Tryd.prog β f R Rs Ts ρ s) :
    Calls Tryd.prog f xs.toArray w fun e w' => ∃ v, e = .returned v ∧ R v w' :=
  calls_sumsE (g := gM) (L := []) (Rs := Rs) (Ts := Ts) (pl := true) noCount noExt hsp follows hf hb hrun hx hr hc h
end
-- SMALL LAWS
def at9 : IT := .var 9
def up9 : IT := .bin .add .i64 (.var 9) (.lit 1)
def q9 (op : BinOp) (a b : IT) (x : Bool) : BT × Bool := (.cmp op a b, x)
def cs9 (t : IT) : Cs := [q9 .geq at9 (.lit 0) true, q9 .leq at9 t true]
def lt9 (t : IT) (b : Bool) : Cs := [q9 .lss at9 t b]
section
variable {ρ : Env}
theorem qD {op : BinOp} {a b : IT} {x y : Int} {z : Bool} {cs : Cs} (h : a.den ρ = some x) (g : b.den ρ = some y) (e : intCmp op x y = some z) (c : CRel ρ cs) : CRel ρ (q9 op a b z :: cs) := c1 (by rw [cmpD h g, e]) c
theorem lt9_ok {t : IT} {i n : Nat} {b : Bool} (h9 : ρ.I 9 = (i : Int)) (ht : t.den ρ = some (n : Int)) (hb : decide (i < n) = b) : CRel ρ (lt9 t b) :=
  qD (show at9.den ρ = _ from varD h9) ht (by
    simp only [intCmp, Option.some.injEq]
    rw [← hb, decide_eq_decide]; omega) c0
theorem cs9_ok {t : IT} {i n : Nat} (h9 : ρ.I 9 = (i : Int)) (ht : t.den ρ = some (n : Int)) (hi : i ≤ n) : CRel ρ (cs9 t) :=
  qD (show at9.den ρ = _ from varD h9) (litD 0) (by simp [intCmp]) (qD (show at9.den ρ = _ from varD h9) ht (by simp [intCmp]; omega) c0)
end
end Rt
end Go.Proofs.YtglghnfbkiondaaDoor
end

/-
  RankTables (2): slices.Sort, as the machine takes it.
-/
section
namespace Go.Proofs.YtglghnfbkiondaaDoor
open Go.Vm Go.Vm.Rk Go.Vm.Mr
namespace Rt
open Rk

theorem pre_getR {cc : List Value} {L : List Int} (h : rowOf [.i64] L <+: cc) {j : Nat} (hj : j < L.length) : cc[j]? = some (.int .i64 (L.getD j 0)) := by
  obtain ⟨t, ht⟩ := h
  rw [← ht, List.getElem?_append_left (by rw [rowOf_length]; simpa using hj), rowOf1]
  simp [List.getD_eq_getElem?_getD, hj]
def spSort : SpG := fun args H nl cs => match args with
  | [.sliceNil] => some [.ret (.tuple []) H nl cs]
  | [.slice l (.lit (.ofNat 0)) n _] => match H.get l with
    | some ⟨.arr (.code ks c) ks' 3 n0 (.lit (.ofNat 0)) (some q), true⟩ => cond (decide (ks = [.i64]) && (decide (ks' = [.i64]) && (IT.beq n n0 && sureC cs (.cmp .leq n (.lit 1000000)))))
      (some [.ret (.tuple []) (H.set l ⟨.arr (.code [.i64] (fnT 40 c)) [.i64] 3 n (.lit 0) (some q), true⟩) nl cs]) none
    | _ => none
  | _ => none
theorem spSort_ok {β : Base} (hG : ∀ I B S V F, β.G I B S V F → GR I B S V F) : SpGOk Tryd.prog β 24 spSort := by
  intro args H nl cs ls ρ w xs hr hx hh hc
  unfold spSort at hr
  split at hr
  · cases hr
    obtain rfl : [.slice none 0 0] = xs := Option.some.inj ((denL1 (ρ := ρ) rfl).symm.trans hx)
    refine (AnyM.slices_Sort_int_none Rk.sortA none 0 w).mono fun e w' ⟨he, hw⟩ => ?_
    subst hw
    exact ⟨_, he, _, _, _, _, ρ, List.mem_cons_self, Env.Le.refl ρ, rfl, hh, hc⟩
  · rename_i l n q0
    split at hr
    rotate_left
    · cases hr
    rename_i ks c ks' n0 q hk
    cases hb : (decide (ks = [IntKind.i64]) && (decide (ks' = [IntKind.i64]) && (IT.beq n n0 && sureC cs (.cmp .leq n (.lit 1000000))))) with
    | false => rw [hb] at hr; cases hr
    | true =>
      rw [hb] at hr; simp only [cond_true, Option.some.injEq] at hr
      subst hr
      simp only [Bool.and_eq_true, decide_eq_true_eq] at hb
      obtain ⟨rfl, rfl, q3, q4⟩ := hb
      obtain rfl := IT.beq_eq q3
      have hleq := sureC_ok q4 hc
      cases hs : (AVal.slice l (.lit (.ofNat 0)) n q0).den ρ with
      | none => simp only [AVal.denL, hs] at hx; cases hx
      | some sv =>
      obtain rfl := Option.some.inj ((denL1 hs).symm.trans hx)
      obtain ⟨b, o, N, cap0, rfl, hN, hoff, hn, _⟩ := den_slice hs
      obtain rfl : o = 0 := by
        have : some (Int.ofNat 0) = some (Int.ofNat o) := hoff
        exact (Int.ofNat.inj (Option.some.inj this)).symm
      have hn : n.den ρ = some (N : Int) := hn
      rw [cmpD hn (litD 1000000)] at hleq
      simp only [intCmp, Option.some.injEq, decide_eq_true_eq] at hleq
      obtain ⟨b', ob, hb', ho, hrel⟩ := hh.blk _ _ hk
      rw [hN] at hb'; cases hb'
      obtain ⟨ys, cc, fr, el, m, b0, rfl, hel, hd, hoff2, ⟨hsz0, hp⟩, hn2, hty, ⟨cap, hcap, hroom⟩, hfr⟩ := hrel
      obtain rfl := hel rfl
      obtain rfl : b0 = 0 := by have : some (Int.ofNat 0) = some (b0 : Int) := hoff2; exact (Int.ofNat.inj (Option.some.inj this)).symm
      have e1 : m = N := by have := hn2.symm.trans hn; exact Int.ofNat.inj (Option.some.inj this)
      subst e1
      simp only [AT.den] at hd
      cases hcd : c.den ρ with
      | none => rw [hcd] at hd; cases hd
      | some xv =>
      rw [hcd, Option.map_some, Option.some.injEq] at hd
      subst hd
      obtain ⟨L, hL⟩ : ∃ L, L = decL xv := ⟨_, rfl⟩
      rw [← hL] at hp hty
      have hlen : L.length = m := by have := hty.1; rw [rowOf_length] at this; simpa using this
      subst hlen
      rw [List.drop_zero] at hp
      have hLc : L.length ≤ cc.size := by
        have := hp.length_le
        rw [rowOf_length, Array.length_toList] at this
        simpa using this
      have hH : Go.Sort.Holds (Value.int .i64) w b 0 L.toArray := fun j hj => by
        have hj' : j < L.length := by simpa using hj
        refine ⟨?_, ?_⟩
        · rw [Nat.zero_add, cell_of w ho, ← Array.getElem?_toList, pre_getR hp hj', getElem!_pos L.toArray j hj]
          simp [List.getD_eq_getElem?_getD, List.getElem?_eq_getElem hj']
        · have hf := hfr rfl
          simp only [World.frozen?, ho]
          rw [Bool.eq_false_iff]; simp; unfold FrOk at hf; omega
      have hblt : b < w.heap.size := (Array.getElem?_eq_some_iff.1 ho).1
      refine (AnyM.slices_Sort_int Rk.sortA b 0 cap0 L w hH hblt (by omega)).mono fun e w' ⟨he, k, os, hw⟩ => ?_
      obtain ⟨w1, hw1⟩ : ∃ w1, w1 = Go.Sort.putRow (Value.int .i64) (Go.Sort.ahead w k) b 0 (L.mergeSort fun x y => decide (x ≤ y)).toArray := ⟨_, rfl⟩
      rw [← hw1] at hw
      obtain ⟨D, hDd⟩ : ∃ D : Array Int, D = (sortL L).toArray := ⟨_, rfl⟩
      have hDs : D.size = L.length := by rw [hDd]; simp [sortL_len]
      have hw1 : w1 = Go.Sort.putRow (Value.int .i64) (Go.Sort.ahead w k) b 0 D := by rw [hDd]; exact hw1
      have hheap : w1.heap = w.heap.setIfInBounds b (.cells (Go.Sort.putCells (Value.int .i64) 0 D cc) 3 fr) := by
        rw [hw1]
        apply Array.ext_getElem?
        intro j
        simp only [Go.Sort.putRow, Go.Sort.mapBlock, Go.Sort.ahead, Array.getElem?_modify, Array.getElem?_setIfInBounds]
        by_cases hj : b = j
        · subst hj; simp [hblt, (Array.getElem?_eq_some_iff.1 ho).2, Go.Sort.onCells]
        · simp [hj]
      have e40 : (fnT 40 c).den ρ = some (encL (sortL L)) := by
        rw [fnT, fnD hcd (litD 0), (hG _ _ _ _ _ hh.g).1, hL]
      have hh' := hh.write (k' := ⟨.arr (.code [.i64] (fnT 40 c)) [.i64] 3 n (.lit 0) (some q), true⟩) hk rfl hN (w' := w1) (o' := .cells (Go.Sort.putCells (Value.int .i64) 0 D cc) 3 fr) ⟨rowOf [.i64] (sortL L), _, fr, 3, L.length, 0, rfl, fun _ => rfl, by simp only [AT.den, e40, Option.map_some, decL_encL], rfl, ⟨Nat.zero_le _, by
        rw [List.drop_zero, rowOf1]
        refine List.prefix_iff_getElem?.2 fun j hj => ?_
        have hj' : j < (sortL L).length := by simpa using hj
        have hjl : j < L.length := by rw [sortL_len] at hj'; exact hj'
        have hjc : j < cc.size := by omega
        rw [Array.getElem?_toList, Go.Sort.putCells, Array.getElem?_mapIdx, Array.getElem?_eq_getElem hjc, Option.map_some, if_pos ⟨Nat.zero_le _, by omega⟩, Nat.sub_zero, List.getElem_map]
        have : D[j]! = (sortL L)[j] := by
          rw [getElem!_pos D j (by omega)]
          simp only [hDd]
          rw [List.getElem_toArray]
        rw [this]⟩, hn, rowOf_typed (by rw [sortL_len]; simp), ⟨cap, hcap, by have : cc.size - 0 = cap * 1 := hroom; simp [Go.Sort.putCells]; omega⟩, fun _ => by
          have := hfr rfl
          unfold FrOk at this ⊢
          simpa [Go.Sort.putCells] using this⟩ hheap (by rw [hw1]; rfl) (by rw [hw1]; rfl) (by rw [hw1]; rfl)
      have hfg : Framed w1 w' := by
        rw [hw]
        exact ⟨by simp [Go.Sort.grow], fun b hb => by simp [Go.Sort.grow, Array.getElem?_append_left hb], rfl, rfl, rfl⟩
      exact ⟨_, he, _, _, _, _, ρ, List.mem_cons_self, Env.Le.refl ρ, rfl, hh'.framed hfg, hc⟩
  · cases hr
end Rt
end Go.Proofs.YtglghnfbkiondaaDoor
end

/-
  RankTables (3): heads and facts of Steps and of the reference's Steps.
-/
section
namespace Go.Proofs.YtglghnfbkiondaaDoor
open Go.Vm Go.Vm.Rk Go.Vm.Mr
namespace Rt
open Rk

def rI : HB := ⟨.arr (.code [.i64] (.var 23)) [.i64] 3 (.var 22) (.lit 0) (some (.nv 12)), true⟩
def rS : HB := ⟨.arr (.code [.i64] (fnT 40 (.var 23))) [.i64] 3 (.var 22) (.lit 0) (some (.nv 12)), true⟩
def vI : AVal := .slice 13 (.lit 0) (.var 22) (.nv 12)
def csV : Cs := [q9 .geq (.var 22) (.lit 1) true, q9 .leq (.var 22) (.lit 100) true, q9 .leq (.var 22) (.lit 300) true, q9 .leq (.var 22) (.lit 1000000) true]
def T13 : Bool → Tpl
  | false => ⟨[(1, iV 20), (5, .sliceNil), (8, SL .row), (9, .int .i64 (.var 36)), (10, iV 9)], 31, roH (EL .row), 500, cs9 (.var 36) ++ csL .row, 3⟩
  | true => ⟨[(1, iV 20), (5, vI), (8, SL .row), (9, .int .i64 (.var 36)), (10, iV 9)], 31, roH (EL .row) ++ [(13, rI)], 500, cs9 (.var 36) ++ csL .row ++ csV, 3⟩
def T14 : Bool → Tpl
  | false => ⟨[(1, iV 20), (2, iV 21), (7, .sliceNil), (10, SL .row), (11, .int .i64 (.var 36)), (12, iV 9)], 48, roH (EL .row), 500, cs9 (.var 36) ++ csL .row, 3⟩
  | true => ⟨[(1, iV 20), (2, iV 21), (7, vI), (10, SL .row), (11, .int .i64 (.var 36)), (12, iV 9)], 48, roH (EL .row) ++ [(13, rI)], 500, cs9 (.var 36) ++ csL .row ++ csV, 3⟩
def eS : List Tpl := [⟨[(0, vI)], 1, [(13, rS)], 20, [], 0⟩, ⟨[(0, .sliceNil)], 1, [], 20, [], 0⟩]
def t13 : List Tpl := [T13 false, T13 true]
def t14 : List Tpl := [T14 false, T14 true]
/-- Of a record: its kind; whether it has ended, is refused; its code. -/
def fK (k : IT) (b : Bool) : Cs := [q9 .eql (rT at9 1) k b]
def fE (b : Bool) : Cs := [q9 .geq (rT at9 8) (.lit 0) b, q9 .gtr (rT at9 8) (.lit (-1)) b]
def fR : Cs := [q9 .neq (rT at9 11) (.lit 0) true]
def fS (b : Bool) : Cs := [q9 .neq (rT at9 11) (.lit 0) false, q9 .eql (rT at9 9) (.lit 5) b]
def fA (b : Bool) : Cs := [q9 .lss (.var 21) (.lit 0) b]
def fQ (b : Bool) : Cs := [q9 .eql (rT at9 2) (.var 21) b]
/-- It isn't taken; it is: the ways of it. -/
def wyN (k : IT) : List Cs := [fK k false, fK k true ++ fE false, fK k true ++ fE true ++ fR, fK k true ++ fE true ++ fS true]
def wyG (k : IT) : Cs := fK k true ++ fE true ++ fS false
def sp13 : CallF := spL [(24, spSort)]
def spNil : SpG := fun args H nl cs => match args with
  | [.sliceNil] => some [.ret .sliceNil H nl cs]
  | _ => none
def sp14 : CallF := spL [(21, fun args H nl cs => (spNil args H nl cs).orElse fun _ => spRis args H nl cs)]
end Rt
end Go.Proofs.YtglghnfbkiondaaDoor
end
