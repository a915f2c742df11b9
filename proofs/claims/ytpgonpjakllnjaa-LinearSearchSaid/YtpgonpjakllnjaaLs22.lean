/-
  LinearSearch (21): an order is found where there is one, plainly.
-/
import Derived.Test.YtpgonpjakllnjaaLs20
section
namespace Go.Proofs.Ytpgonpjakllnjaa
open Go.Vm Go.Vm.Md Lm Lt
namespace Ls

section
variable {x : Int} {n : Nat}
/-- What a history says of a record. -/
def K (x : Int) (n : Nat) : Dt := dA x n []
def inP (n : Nat) (v : Int) : Prop := 0 ≤ v ∧ v < (n : Int)
def isIv (x : Int) (n : Nat) (v : Int) : Prop := inP n v ∧ (K x n).c v 1 = 2
def AnsP (x : Int) (n : Nat) : Mod → List Int → Prop
  | _, [] => True
  | m, v :: r => ((K x n).ended v = true → alP (K x n) m v = true) ∧ AnsP x n ((K x n).go m v).2 r
def repl (x : Int) (n : Nat) : Mod → List Int → Mod
  | m, [] => m
  | m, v :: r => repl x n ((K x n).go m v).2 r
theorem AnsP_app {m : Mod} {A B : List Int} : AnsP x n m (A ++ B) ↔ AnsP x n m A ∧ AnsP x n (repl x n m A) B := by
  induction A generalizing m with
  | nil => simp [AnsP, repl]
  | cons v r ih =>
    simp only [List.cons_append, AnsP, repl, ih]
    exact ⟨fun h => ⟨⟨h.1, h.2.1⟩, h.2.2⟩, fun h => ⟨h.1.1, h.1.2, h.2⟩⟩
theorem repl_app {m : Mod} {A B : List Int} : repl x n m (A ++ B) = repl x n (repl x n m A) B := by
  induction A generalizing m with
  | nil => rfl
  | cons v r ih => simp only [List.cons_append, repl, ih]
structure Good (x : Int) (n : Nat) (O : List Int) : Prop where
  g1 : ∀ v ∈ O, isIv x n v
  g2 : O.Nodup
  g3 : ∀ v ∈ O, (K x n).refd v = false
  g4 : ∀ v, isIv x n v → (K x n).ended v = true → (K x n).refd v = false → v ∈ O
  g5 : O.Pairwise fun a b => (K x n).ahead b a = false
  g6 : AnsP x n mod0 O
theorem o_get {O : List Int} {i : Nat} (h : i < O.length) : (dA x n O).o i = O[i] := by
  show (decL (encL O)).getD i 0 = _
  rw [decL_encL, List.getD_eq_getElem?_getD, List.getElem?_eq_getElem h, Option.getD_some]
theorem anyT_iff {p : Nat → Bool} {n : Nat} : anyT p n = false ↔ ∀ i, i < n → p i = false := ⟨fun h _ hi => anyT_false h hi, anyT_of⟩
theorem st_take {O : List Int} (h1 : ∀ v ∈ O, inP n v) : ∀ {i : Nat}, i ≤ O.length → (dA x n O).stO i = repl x n mod0 (O.take i)
  | 0, _ => rfl
  | i + 1, hi => by
    have ih := st_take h1 (i := i) (by omega)
    have hin : (dA x n O).inR ((dA x n O).o i) = true := by
      rw [o_get hi]
      have := h1 _ (List.getElem_mem hi)
      simp only [Dt.inR, Bool.and_eq_true, decide_eq_true_eq]; exact this
    unfold Dt.stO
    rw [if_pos hin, ih, o_get hi, List.take_succ_eq_append_getElem hi, repl_app]
    rfl
theorem ans_iff {m : Mod} {O : List Int} : AnsP x n m O ↔ ∀ i (h : i < O.length), (K x n).ended O[i] = true → alP (K x n) (repl x n m (O.take i)) O[i] = true := by
  induction O generalizing m with
  | nil => exact ⟨fun _ i h => absurd h (Nat.not_lt_zero _), fun _ => trivial⟩
  | cons v r ih =>
    simp only [AnsP, ih]
    constructor
    · intro h i hi
      cases i with
      | zero => exact h.1
      | succ i =>
        have := h.2 i (by simpa using hi)
        simpa [repl] using this
    · intro h
      refine ⟨h 0 (by simp), fun i hi => ?_⟩
      have := h (i + 1) (by simpa using hi)
      simpa [repl] using this
theorem good_iff {O : List Int} : wrP x n O = 0 ↔ Good x n O := by
  have hw : wrP x n O = 0 ↔ anyT (dA x n O).w1 O.length = false ∧ anyT (dA x n O).w2 O.length = false ∧ anyT (dA x n O).w3 O.length = false ∧ anyT (dA x n O).w4 n = false ∧ anyT (dA x n O).w5 O.length = false ∧ anyT (dA x n O).w6 O.length = false := by
    show (dA x n O).wrong = 0 ↔ _
    unfold Dt.wrong Dt.mem
    show (if (if anyT (dA x n O).w1 O.length = true then (1 : Int) else if anyT (dA x n O).w2 O.length = true then 2 else if anyT (dA x n O).w3 O.length = true then 3 else if anyT (dA x n O).w4 n = true then 4 else 0) ≠ 0 then (if anyT (dA x n O).w1 O.length = true then (1 : Int) else if anyT (dA x n O).w2 O.length = true then 2 else if anyT (dA x n O).w3 O.length = true then 3 else if anyT (dA x n O).w4 n = true then 4 else 0) else if anyT (dA x n O).w5 O.length = true then 5 else if anyT (dA x n O).w6 O.length = true then 6 else 0) = 0 ↔ _
    cases anyT (dA x n O).w1 O.length <;> cases anyT (dA x n O).w2 O.length <;> cases anyT (dA x n O).w3 O.length <;> cases anyT (dA x n O).w4 n <;> cases anyT (dA x n O).w5 O.length <;> cases anyT (dA x n O).w6 O.length <;> simp
  rw [hw]
  simp only [anyT_iff]
  constructor
  · rintro ⟨h1, h2, h3, h4, h5, h6⟩
    have g1 : ∀ v ∈ O, isIv x n v := fun v hv => by
      obtain ⟨i, hi, rfl⟩ := List.getElem_of_mem hv
      have := h1 i hi
      simp only [Dt.w1, Bool.or_eq_false_iff, Bool.not_eq_false', decide_eq_true_eq, o_get hi, Dt.inR, Bool.and_eq_true] at this
      exact ⟨this.1, this.2⟩
    refine ⟨g1, ?_, fun v hv => ?_, fun v hv hen hr => ?_, ?_, ?_⟩
    · rw [List.nodup_iff_pairwise_ne, List.pairwise_iff_getElem]
      intro j i hj hi hji he
      have := h2 i hi
      simp only [Dt.w2, Dt.hasN] at this
      have := anyT_false this hji
      rw [o_get hj, o_get hi, decide_eq_false_iff_not] at this
      exact this he
    · obtain ⟨i, hi, rfl⟩ := List.getElem_of_mem hv
      have := h3 i hi
      simp only [Dt.w3, o_get hi] at this
      exact this
    · obtain ⟨⟨hv0, hvn⟩, hk⟩ := hv
      have := h4 v.toNat (by omega)
      have hcast : ((v.toNat : Nat) : Int) = v := Int.toNat_of_nonneg hv0
      simp only [Dt.w4, hcast] at this
      have hk' : (dA x n O).c v 1 = 2 := hk
      have hen' : (dA x n O).ended v = true := hen
      have hr' : (dA x n O).refd v = false := hr
      rw [decide_eq_true hk', hen', hr'] at this
      have h2 : (dA x n O).hasN (dA x n O).m v = true := by simpa using this
      have h3 : (dZ .row x n O 0).hasN O.length v = true := h2
      rw [has_eq] at h3
      exact hasL_iff.1 h3
    · rw [List.pairwise_iff_getElem]
      intro j i hj hi hji
      have := h5 i hi
      simp only [Dt.w5] at this
      have := anyT_false this hji
      rw [o_get hj, o_get hi] at this
      exact this
    · rw [ans_iff]
      intro i hi hen
      have := h6 i hi
      have hen' : (dA x n O).ended O[i] = true := hen
      simp only [Dt.w6, Dt.anO, o_get hi, hen', st_take (fun v hv => (g1 v hv).1) (Nat.le_of_lt hi), Bool.true_and, Bool.not_eq_false'] at this
      exact this
  · rintro ⟨g1, g2, g3, g4, g5, g6⟩
    refine ⟨fun i hi => ?_, fun i hi => ?_, fun i hi => ?_, fun i hi => ?_, fun i hi => ?_, fun i hi => ?_⟩
    · obtain ⟨ha, hk⟩ := g1 _ (List.getElem_mem hi)
      have hk' : (dA x n O).c O[i] 1 = 2 := hk
      have hin : (dA x n O).inR O[i] = true := by simp only [Dt.inR, Bool.and_eq_true, decide_eq_true_eq]; exact ha
      simp only [Dt.w1, o_get hi, hin, decide_eq_true hk']; rfl
    · refine anyT_of fun j hj => ?_
      rw [o_get hi, o_get (Nat.lt_trans hj hi), decide_eq_false_iff_not]
      exact (List.pairwise_iff_getElem.1 (List.nodup_iff_pairwise_ne.1 g2)) j i (Nat.lt_trans hj hi) hi hj
    · simp only [Dt.w3, o_get hi]
      exact g3 _ (List.getElem_mem hi)
    · by_cases hk : (dA x n O).c (i : Int) 1 = 2
      · by_cases hen : (dA x n O).ended (i : Int) = true
        · by_cases hr : (dA x n O).refd (i : Int) = true
          · simp only [Dt.w4, hr]; simp
          · have hr' := Bool.eq_false_iff.2 hr
            have hm := g4 (i : Int) ⟨⟨by omega, by omega⟩, hk⟩ hen hr'
            have h2 : (dA x n O).hasN (dA x n O).m (i : Int) = true := by
              rw [show (dA x n O) = dZ .row x n O 0 from rfl]
              show (dZ .row x n O 0).hasN O.length (i : Int) = true
              rw [has_eq]; exact hasL_iff.2 hm
            simp only [Dt.w4, h2]; simp
        · simp only [Dt.w4, Bool.eq_false_iff.2 hen]; simp
      · simp only [Dt.w4, decide_eq_false hk]; simp
    · refine anyT_of fun j hj => ?_
      rw [o_get hi, o_get (Nat.lt_trans hj hi)]
      exact (List.pairwise_iff_getElem.1 g5) j i (Nat.lt_trans hj hi) hi hj
    · by_cases hen : (dA x n O).ended O[i] = true
      · have := ans_iff.1 g6 i hi hen
        have h2 : alP (K x n) (repl x n mod0 (O.take i)) O[i] = true := this
        simp only [Dt.w6, Dt.anO, o_get hi, hen, st_take (fun v hv => (g1 v hv).1) (Nat.le_of_lt hi), Bool.true_and, Bool.not_eq_false']
        exact h2
      · simp only [Dt.w6, o_get hi, Bool.eq_false_iff.2 hen, Bool.false_and]
end
end Ls
end Go.Proofs.Ytpgonpjakllnjaa
end

/-
  LinearSearch (22): the search finds an order just where there is one.
-/
section
namespace Go.Proofs.Ytpgonpjakllnjaa
open Go.Vm Go.Vm.Md Lm Lt
namespace Ls

-- THE REFERENCE
section
variable {x : Int} {n : Nat}
theorem any_ex : ∀ {f : Nat} {O : List Int}, anyP x n f O = true → ∃ T, wrP x n (O ++ T) = 0
  | 0, O, h => ⟨[], by rw [List.append_nil]; simpa [anyP] using h⟩
  | f + 1, O, h => by
    simp only [anyP, Bool.or_eq_true, decide_eq_true_eq] at h
    rcases h with h | h
    · exact ⟨[], by rw [List.append_nil]; exact h⟩
    · have : ∃ i, i < n ∧ (canP x n O i && anyP x n f (O ++ [(i : Int)])) = true := by
        apply Classical.byContradiction
        intro hn
        have h2 : anyT (fun i => canP x n O i && anyP x n f (O ++ [(i : Int)])) n = false := anyT_of fun i hi => Bool.eq_false_iff.2 fun h3 => hn ⟨i, hi, h3⟩
        rw [h2] at h; cases h
      obtain ⟨i, hi, h2⟩ := this
      obtain ⟨T, hT⟩ := any_ex (Bool.and_eq_true_iff.1 h2).2
      exact ⟨(i : Int) :: T, by rw [List.append_assoc] at hT; exact hT⟩
theorem any_of : ∀ {T : List Int} {f : Nat} {O : List Int}, wrP x n (O ++ T) = 0 → miss O n ≤ f → anyP x n f O = true
  | [], f, O, h, _ => by
    rw [List.append_nil] at h
    cases f with
    | zero => simp only [anyP, decide_eq_true_eq]; exact h
    | succ f => simp only [anyP, Bool.or_eq_true, decide_eq_true_eq]; exact .inl h
  | v :: T, f, O, h, hm => by
    have g := good_iff.1 h
    have hv : v ∈ O ++ v :: T := by simp
    obtain ⟨⟨h0, hn⟩, hk⟩ := g.g1 v hv
    obtain ⟨i, rfl⟩ : ∃ i : Nat, v = (i : Int) := ⟨v.toNat, by omega⟩
    have hin : i < n := by omega
    have hnot : hasL O (i : Int) = false := Bool.eq_false_iff.2 fun hh => by
      have := (List.nodup_append.1 g.g2).2.2 _ (hasL_iff.1 hh) (i : Int) (by simp)
      exact this rfl
    have hlt := miss_lt hnot hin
    obtain ⟨f', rfl⟩ : ∃ f', f = f' + 1 := ⟨f - 1, by omega⟩
    have ih := any_of (T := T) (f := f') (O := O ++ [(i : Int)]) (by rw [List.append_assoc]; exact h) (by omega)
    have hk' : (dA x n O).c (i : Int) 1 = 2 := hk
    have hr : (dA x n O).refd (i : Int) = false := g.g3 _ hv
    simp only [anyP, Bool.or_eq_true]
    refine .inr (anyT_true hin ?_)
    simp only [canP, hnot, hr, decide_eq_true hk', ih]; rfl
end
-- THE SEARCH
section
variable {d : Dt}
theorem iv_iff : ∀ (i : Nat) (v : Int), v ∈ d.iv i ↔ (0 ≤ v ∧ v < (i : Int)) ∧ d.c v 1 = 2
  | 0, v => by simp only [Dt.iv, List.not_mem_nil, false_iff]; omega
  | i + 1, v => by
    have ih := iv_iff i v
    unfold Dt.iv
    split
    · rename_i hk
      rw [List.mem_append, ih, List.mem_singleton]
      constructor
      · rintro (h | rfl)
        · exact ⟨by omega, h.2⟩
        · exact ⟨by omega, hk⟩
      · rintro ⟨h, h2⟩
        by_cases he : v = (i : Int)
        · exact .inr he
        · exact .inl ⟨by omega, h2⟩
    · rename_i hk
      rw [ih]
      constructor
      · rintro ⟨h, h2⟩; exact ⟨by omega, h2⟩
      · rintro ⟨h, h2⟩
        have : v ≠ (i : Int) := fun he => hk (he ▸ h2)
        exact ⟨by omega, h2⟩
theorem iv_nodup : ∀ (i : Nat), (d.iv i).Nodup
  | 0 => List.nodup_nil
  | i + 1 => by
    have ih := iv_nodup i
    unfold Dt.iv
    split
    · refine List.nodup_append.2 ⟨ih, by simp, fun a ha b hb => ?_⟩
      have := ((iv_iff i a).1 ha).1
      rw [List.mem_singleton.1 hb]; omega
    · exact ih
theorem getD_lt {L : List Int} {i : Nat} (h : i < L.length) : L.getD i 0 = L[i] := by
  rw [List.getD_eq_getElem?_getD, List.getElem?_eq_getElem h, Option.getD_some]
theorem lfI_filter : ∀ {i : Nat}, i ≤ (ivs d).length → lfI d i = ((ivs d).take i).filter fun v => !d.refd v
  | 0, _ => rfl
  | i + 1, hi => by
    have ih := lfI_filter (i := i) (by omega)
    rw [lfI, List.take_succ_eq_append_getElem hi, List.filter_append, ← ih, getD_lt hi]
    by_cases hr : d.refd (ivs d)[i] = true
    · rw [if_pos hr]; simp [hr]
    · rw [if_neg hr]; simp [Bool.eq_false_iff.2 hr]
theorem muI_filter : ∀ {i : Nat}, i ≤ (ivs d).length → muI d i = ((ivs d).take i).filter fun v => !d.refd v && d.ended v
  | 0, _ => rfl
  | i + 1, hi => by
    have ih := muI_filter (i := i) (by omega)
    rw [muI, List.take_succ_eq_append_getElem hi, List.filter_append, ← ih, getD_lt hi]
    by_cases hr : d.refd (ivs d)[i] = true
    · rw [if_pos hr]; simp [hr]
    · rw [if_neg hr]
      by_cases he : d.ended (ivs d)[i] = true
      · rw [if_pos he]; simp [Bool.eq_false_iff.2 hr, he]
      · rw [if_neg he]; simp [Bool.eq_false_iff.2 he]
theorem lf_iff (v : Int) : v ∈ lfA d ↔ isIv d.x d.n v ∧ (K d.x d.n).refd v = false := by
  have h : v ∈ lfA d ↔ ((0 ≤ v ∧ v < (d.n : Int)) ∧ d.c v 1 = 2) ∧ d.refd v = false := by
    unfold lfA
    rw [lfI_filter (Nat.le_refl _), List.take_length, List.mem_filter]
    show v ∈ d.iv d.n ∧ _ ↔ _
    rw [iv_iff]; simp
  exact h
theorem mu_iff (v : Int) : v ∈ muA d ↔ (isIv d.x d.n v ∧ (K d.x d.n).refd v = false) ∧ (K d.x d.n).ended v = true := by
  have h : v ∈ muA d ↔ (((0 ≤ v ∧ v < (d.n : Int)) ∧ d.c v 1 = 2) ∧ d.refd v = false) ∧ d.ended v = true := by
    unfold muA
    rw [muI_filter (Nat.le_refl _), List.take_length, List.mem_filter]
    show v ∈ d.iv d.n ∧ _ ↔ _
    rw [iv_iff]; simp [and_assoc]
  exact h
theorem lf_nodup : (lfA d).Nodup := by
  unfold lfA
  rw [lfI_filter (Nat.le_refl _), List.take_length]
  exact List.nodup_iff_pairwise_ne.2 ((List.nodup_iff_pairwise_ne.1 (iv_nodup d.n)).filter _)
/-- What holds on the way. -/
structure Inv (d : Dt) (m : Mod) (O L : List Int) : Prop where
  st : m = repl d.x d.n mod0 O
  nd : (O ++ L).Nodup
  mem : ∀ v, v ∈ O ++ L ↔ v ∈ lfA d
  a5 : O.Pairwise fun a b => (K d.x d.n).ahead b a = false
  a6 : AnsP d.x d.n mod0 O
  fr : ∀ v ∈ L, ∀ u ∈ O, (K d.x d.n).ahead v u = false
theorem Inv.zero : Inv d mod0 [] (lfA d) := ⟨rfl, lf_nodup, fun _ => Iff.rfl, List.Pairwise.nil, trivial, fun _ _ _ h => by cases h⟩
theorem erase_perm {O L : List Int} {t : Nat} (ht : t < L.length) : ((O ++ [L[t]]) ++ L.eraseIdx t).Perm (O ++ L) := by
  rw [List.append_assoc]
  refine List.Perm.append_left O ?_
  have h1 : L = L.take t ++ L[t] :: L.drop (t + 1) := by
    rw [List.getElem_cons_drop, List.take_append_drop]
  have h2 : ([L[t]] ++ L.eraseIdx t).Perm (L.take t ++ L[t] :: L.drop (t + 1)) := by
    rw [List.eraseIdx_eq_take_drop_succ]
    show (L[t] :: (L.take t ++ L.drop (t + 1))).Perm _
    exact List.perm_middle.symm
  rw [← h1] at h2
  exact h2
theorem Inv.step {m : Mod} {O L : List Int} {t : Nat} (h : Inv d m O L) (ht : t < L.length) (hfree : freeP (d1 d 0) L L[t] = true) (hok : okA (d1 d 0) m L[t] = true) : Inv d ((d1 d 0).go m L[t]).2 (O ++ [L[t]]) (L.eraseIdx t) := by
  have hp := erase_perm (O := O) ht
  have hnd := hp.nodup_iff.2 h.nd
  refine ⟨?_, hnd, fun v => (hp.mem_iff).trans (h.mem v), ?_, ?_, ?_⟩
  · rw [repl_app, ← h.st]; rfl
  · refine List.pairwise_append.2 ⟨h.a5, by simp, fun a ha b hb => ?_⟩
    rw [List.mem_singleton.1 hb]
    exact h.fr _ (List.getElem_mem ht) a ha
  · rw [AnsP_app]
    refine ⟨h.a6, fun hen => ?_, trivial⟩
    rw [← h.st]
    have h2 : (!(K d.x d.n).ended L[t] || alP (K d.x d.n) m L[t]) = true := hok
    rw [hen] at h2
    simpa using h2
  · intro v hv u hu
    have hvL : v ∈ L := (List.eraseIdx_sublist _ _).subset hv
    rcases List.mem_append.1 hu with hu | hu
    · exact h.fr v hvL u hu
    · have hne : v ≠ u := fun e => (List.nodup_append.1 hnd).2.2 u (List.mem_append_right _ hu) v hv e.symm
      rw [List.mem_singleton.1 hu] at hne ⊢
      unfold freeP at hfree
      simp only [Bool.not_eq_true'] at hfree
      obtain ⟨j, hj, hje⟩ := List.getElem_of_mem hvL
      have := anyT_false hfree hj
      simp only [freeQ, getD_lt hj, hje, decide_eq_false hne] at this
      have h3 : (d1 d 0).ahead v L[t] = false := by simpa using this
      exact h3
theorem done_iff {O : List Int} : doneP (d1 d 0) O = true ↔ ∀ v ∈ muA d, v ∈ O := by
  unfold doneP
  simp only [Bool.not_eq_true']
  have hget : ∀ {i : Nat} (hi : i < (muA d).length), (d1 d 0).o i = (muA d)[i] := fun {i} hi => by
    show (decL (encL (muA d))).getD i 0 = _
    rw [decL_encL, getD_lt hi]
  constructor
  · intro h v hv
    obtain ⟨i, hi, rfl⟩ := List.getElem_of_mem hv
    have := anyT_false (n := (muA d).length) h hi
    simp only [doneQ, hget hi, Bool.not_eq_false'] at this
    exact hasL_iff.1 this
  · intro h
    refine anyT_of fun i hi => ?_
    have hi' : i < (muA d).length := hi
    simp only [doneQ, hget hi', Bool.not_eq_false']
    exact hasL_iff.2 (h _ (List.getElem_mem hi'))
theorem Inv.good {m : Mod} {O L : List Int} (h : Inv d m O L) (hd : doneP (d1 d 0) O = true) : Good d.x d.n O := by
  have hO : ∀ v ∈ O, v ∈ lfA d := fun v hv => (h.mem v).1 (List.mem_append_left _ hv)
  exact ⟨fun v hv => ((lf_iff v).1 (hO v hv)).1, (List.nodup_append.1 h.nd).1, fun v hv => ((lf_iff v).1 (hO v hv)).2, fun v hv hen hr => done_iff.1 hd v ((mu_iff v).2 ⟨⟨hv, hr⟩, hen⟩), h.a5, h.a6⟩
theorem on_sound : ∀ {f : Nat} {m : Mod} {O L R : List Int}, Inv d m O L → onP (d1 d 0) f m O L = some R → Good d.x d.n R
  | 0, m, O, L, R, h, hR => by
    simp only [onP] at hR
    split at hR
    · rename_i hd; cases hR; exact h.good hd
    · cases hR
  | f + 1, m, O, L, R, h, hR => by
    simp only [onP] at hR
    split at hR
    · rename_i hd; cases hR; exact h.good hd
    · obtain ⟨t, ht, hp⟩ := firstS_some hR
      unfold tryP at hp
      split at hp
      · rename_i hc
        rw [getD_lt ht] at hp hc
        exact on_sound (h.step ht hc.1 hc.2) hp
      · cases hp
theorem on_complete : ∀ {T : List Int} {f : Nat} {m : Mod} {O L : List Int}, Inv d m O L → L.length < f → Good d.x d.n (O ++ T) → ∃ R, onP (d1 d 0) f m O L = some R
  | T, 0, m, O, L, _, hf, _ => by omega
  | T, f + 1, m, O, L, h, hf, g => by
    simp only [onP]
    by_cases hd : doneP (d1 d 0) O = true
    · exact ⟨O, by rw [if_pos hd]⟩
    · rw [if_neg hd]
      have hT : T ≠ [] := fun e => by
        rw [e, List.append_nil] at g
        exact hd (done_iff.2 fun v hv => by
          obtain ⟨⟨h1, h2⟩, h3⟩ := (mu_iff v).1 hv
          exact g.g4 v h1 h3 h2)
      obtain ⟨v, T', rfl⟩ := List.exists_cons_of_ne_nil hT
      have hvm : v ∈ O ++ v :: T' := by simp
      have hnO : v ∉ O := fun hv => (List.nodup_append.1 g.g2).2.2 v hv v (by simp) rfl
      have hvL : v ∈ L := by
        rcases List.mem_append.1 ((h.mem v).2 ((lf_iff v).2 ⟨g.g1 v hvm, g.g3 v hvm⟩)) with h1 | h1
        · exact absurd h1 hnO
        · exact h1
      obtain ⟨t, ht, hte⟩ := List.getElem_of_mem hvL
      have hfree : freeP (d1 d 0) L L[t] = true := by
        unfold freeP
        simp only [Bool.not_eq_true']
        refine anyT_of fun j hj => ?_
        simp only [freeQ, getD_lt hj, hte]
        by_cases he : L[j] = v
        · simp [he]
        · cases ha : (d1 d 0).ahead L[j] v with
          | false => simp
          | true =>
            exfalso
            have ha' : (K d.x d.n).ahead L[j] v = true := ha
            have hjl := (lf_iff L[j]).1 ((h.mem L[j]).1 (List.mem_append_right _ (List.getElem_mem hj)))
            have hen : (K d.x d.n).ended L[j] = true := by
              simp only [Dt.ahead, Bool.and_eq_true] at ha'
              exact ha'.1
            have hm := g.g4 L[j] hjl.1 hen hjl.2
            rcases List.mem_append.1 hm with h1 | h1
            · exact (List.nodup_append.1 h.nd).2.2 _ h1 _ (List.getElem_mem hj) rfl
            · rcases List.mem_cons.1 h1 with h2 | h2
              · exact he h2
              · have h3 := (List.pairwise_append.1 g.g5).2.1
                have h4 := (List.pairwise_cons.1 h3).1 L[j] h2
                rw [h4] at ha'; cases ha'
      have hok : okA (d1 d 0) m L[t] = true := by
        show (!(K d.x d.n).ended L[t] || alP (K d.x d.n) m L[t]) = true
        rw [hte]
        cases hen : (K d.x d.n).ended v with
        | false => rfl
        | true =>
          have h1 := (AnsP_app.1 g.g6).2
          rw [← h.st] at h1
          simp only [AnsP] at h1
          rw [h1.1 hen]; rfl
      have hlen : (L.eraseIdx t).length < f := by rw [List.length_eraseIdx_of_lt ht]; omega
      obtain ⟨R, hR⟩ := on_complete (T := T') (h.step ht hfree hok) hlen (by rw [hte, List.append_assoc]; exact g)
      have htry : tryP (d1 d 0) (onP (d1 d 0) f) m O L t = some R := by
        unfold tryP
        rw [getD_lt ht, if_pos ⟨hfree, hok⟩]; exact hR
      cases hs : firstS (tryP (d1 d 0) (onP (d1 d 0) f) m O L) L.length with
      | some R' => exact ⟨R', rfl⟩
      | none =>
        have := firstS_none hs ht
        rw [htry] at this; cases this
theorem SPd_eq (h8 : ¬ 8 < (ivs d).length) : SPd d = onP (d1 d 0) ((lfA d).length + 1) mod0 [] (lfA d) := by
  unfold SPd
  rw [if_neg h8]
  by_cases hm : muA d = []
  · rw [if_pos hm]
    have hd : doneP (d1 d 0) [] = true := done_iff.2 fun v hv => by rw [hm] at hv; cases hv
    simp only [onP, if_pos hd]
  · rw [if_neg hm]; rfl
theorem SPd_good (h8 : ¬ 8 < (ivs d).length) {R : List Int} (h : SPd d = some R) : wrP d.x d.n R = 0 := by
  rw [SPd_eq h8] at h
  exact good_iff.2 (on_sound Inv.zero h)
theorem SPd_any (h8 : ¬ 8 < (ivs d).length) {f : Nat} (hf : d.n ≤ f) : (SPd d).isSome = anyP d.x d.n f [] := by
  cases ha : anyP d.x d.n f [] with
  | true =>
    obtain ⟨T, hT⟩ := any_ex ha
    obtain ⟨R, hR⟩ := on_complete (T := T) (d := d) (f := (lfA d).length + 1) Inv.zero (Nat.lt_succ_self _) (good_iff.1 hT)
    rw [SPd_eq h8, hR]; rfl
  | false =>
    cases hs : SPd d with
    | none => rfl
    | some R =>
      have := any_of (T := R) (f := f) (O := []) (x := d.x) (n := d.n) (by rw [List.nil_append]; exact SPd_good h8 hs) (by rw [miss_nil]; exact hf)
      rw [this] at ha; cases ha
end
end Ls
end Go.Proofs.Ytpgonpjakllnjaa
end
