/-
  LinearTells (13): the reference's models: of each key what it has and 1, or 0.
-/
import Derived.Test.YtpgonpjakllnjaaLt8
import Derived.Test.YtpgonpjakllnjaaLt12
section
namespace Go.Proofs.Ytpgonpjakllnjaa
open Go.Vm Go.Vm.Md Lm
namespace Lt

theorem arrL_get {M : List Int} {j : Nat} (h : j < 256) : (arrL M).getD j 0 = enM M j := by
  rw [arrL, List.getD_eq_getElem?_getD, List.getElem?_map, List.getElem?_range h]; rfl
/-- Keys and values are small; each key is there once. -/
structure MOk (M : List Int) : Prop where
  ev : M.length % 2 = 0
  nd : (keysM M).Nodup
  ky : ∀ k ∈ keysM M, 0 ≤ k ∧ k ≤ 255
  vl : ∀ k v, mGet M k = some v → 0 ≤ v ∧ v ≤ 1023
structure VOk (m : Mod) : Prop where
  qq : m.Q.length ≤ 256
  mm : MOk m.M
  ss : MOk m.S
theorem MOk.nil : MOk [] := ⟨rfl, List.nodup_nil, (fun k h => by cases h), (fun k v h => by cases h)⟩
theorem VOk0 : VOk mod0 := ⟨by decide, MOk.nil, MOk.nil⟩
theorem get_mem : ∀ (M : List Int) (k : Int), (mGet M k).isSome = decide (k ∈ keysM M)
  | [], k => by simp [mGet, keysM]
  | [_], k => by simp [mGet, keysM]
  | a :: b :: r, k => by
    by_cases h : a = k
    · simp [mGet, keysM, h]
    · have h' : ¬ k = a := fun e => h e.symm
      simp only [mGet, if_neg h, keysM, get_mem r k, List.mem_cons, h', false_or]
theorem get_del : ∀ (M : List Int) (k x : Int), (keysM M).Nodup → mGet (mDel M k) x = if k = x then none else mGet M x
  | [], k, x, _ => by simp [mDel, mGet]
  | [_], k, x, _ => by simp [mDel, mGet]
  | a :: b :: r, k, x, h => by
    simp only [keysM, List.nodup_cons] at h
    by_cases e : a = k
    · subst e
      simp only [mDel, if_true, mGet]
      by_cases e2 : a = x
      · subst e2
        rw [if_pos rfl]
        have := get_mem r a
        rw [decide_eq_false h.1] at this
        cases hg : mGet r a with
        | none => rfl
        | some v => rw [hg] at this; cases this
      · rw [if_neg e2, if_neg e2]
    · simp only [mDel, if_neg e, mGet, get_del r k x h.2]
      by_cases e2 : a = x
      · subst e2
        rw [if_pos rfl, if_neg (fun h => e h.symm), if_pos rfl]
      · rw [if_neg e2, if_neg e2]
theorem del_even : ∀ (M : List Int) (k : Int), M.length % 2 = 0 → (mDel M k).length % 2 = 0
  | [], k, _ => rfl
  | [_], k, h => by simp at h
  | a :: b :: r, k, h => by
    have hr : r.length % 2 = 0 := by simp only [List.length_cons] at h; omega
    by_cases e : a = k
    · simp only [mDel, e, if_true]; exact hr
    · have := del_even r k hr
      simp only [mDel, if_neg e, List.length_cons]; omega
theorem put_even (M : List Int) (k v : Int) (h : M.length % 2 = 0) : (mPut M k v).length % 2 = 0 := by
  rw [len_put M k v h]; split <;> omega
theorem MOk.put {M : List Int} (h : MOk M) {k v : Int} (hk : 0 ≤ k ∧ k ≤ 255) (hv : 0 ≤ v ∧ v ≤ 1023) : MOk (mPut M k v) := by
  refine ⟨put_even _ _ _ h.ev, ?_, fun x hx => ?_, fun x y hx => ?_⟩
  · rw [keysM_put]
    split
    · exact h.nd
    · rename_i hn
      exact List.nodup_append.2 ⟨h.nd, by simp, fun a ha b hb => by rw [List.mem_singleton.1 hb]; exact fun e => hn (e ▸ ha)⟩
  · rw [keysM_put] at hx
    split at hx
    · exact h.ky x hx
    · rcases List.mem_append.1 hx with hx | hx
      · exact h.ky x hx
      · rw [List.mem_singleton.1 hx]; exact hk
  · rw [get_put _ _ _ _ h.ev] at hx
    split at hx
    · cases hx; exact hv
    · exact h.vl x y hx
theorem MOk.del {M : List Int} (h : MOk M) (k : Int) : MOk (mDel M k) := by
  refine ⟨del_even _ _ h.ev, (keysM_del M k).nodup h.nd, fun x hx => h.ky x ((keysM_del M k).subset hx), fun x y hx => ?_⟩
  rw [get_del _ _ _ h.nd] at hx
  split at hx
  · cases hx
  · exact h.vl x y hx
theorem MOk.en {M : List Int} (h : MOk M) (j : Nat) : 0 ≤ enM M j ∧ enM M j ≤ 1024 := by
  unfold enM
  cases hg : mGet M (j : Int) with
  | none => exact ⟨Int.le_refl _, by decide⟩
  | some v => have := h.vl _ _ hg; simp only [encO]; omega
theorem arrL_put {M : List Int} (h : MOk M) (k v : Int) : arrL (mPut M k v) = (List.range 256).map fun (j : Nat) => if (j : Int) = k then v + 1 else enM M j := by
  unfold arrL
  apply List.map_congr_left
  intro j _
  unfold enM
  rw [get_put _ _ _ _ h.ev]
  by_cases e : (j : Int) = k
  · rw [if_pos e, if_pos e.symm]; rfl
  · rw [if_neg e, if_neg (fun h => e h.symm)]
theorem arrL_del {M : List Int} (h : MOk M) (k : Int) : arrL (mDel M k) = (List.range 256).map fun (j : Nat) => if (j : Int) = k then 0 else enM M j := by
  unfold arrL
  apply List.map_congr_left
  intro j _
  unfold enM
  rw [get_del _ _ _ h.nd]
  by_cases e : (j : Int) = k
  · rw [if_pos e, if_pos e.symm]; rfl
  · rw [if_neg e, if_neg (fun h => e h.symm)]
theorem univ21_arr (M : List Int) (k v : Int) : univ 21 (encL (arrL M)) (univ 1 k v) = encL ((List.range 256).map fun (j : Nat) => if (j : Int) = k then v else enM M j) := by
  rw [univ21]
  congr 1
  apply List.map_congr_left
  intro j hj
  rw [decL_encL, arrL_get (List.mem_range.1 hj)]
-- HOW MANY
theorem keys_len : ∀ (M : List Int), M.length % 2 = 0 → (keysM M).length = M.length / 2
  | [], _ => rfl
  | [_], h => by simp at h
  | a :: b :: r, h => by
    have hr : r.length % 2 = 0 := by simp only [List.length_cons] at h; omega
    simp only [keysM, List.length_cons, keys_len r hr]; omega
/-- The keys that are there, rising. -/
def keysR (M : List Int) (n : Nat) : List Nat := (List.range n).filter fun j => (mGet M (j : Int)).isSome
def cntR (M : List Int) : Nat → Nat
  | 0 => 0
  | n + 1 => if 0 < enM M n then cntR M n + 1 else cntR M n
theorem en_pos {M : List Int} (h : MOk M) (j : Nat) : decide (0 < enM M j) = (mGet M (j : Int)).isSome := by
  unfold enM
  cases hg : mGet M (j : Int) with
  | none => rfl
  | some v =>
    have := h.vl _ _ hg
    show decide (0 < v + 1) = true
    exact decide_eq_true (by omega)
theorem cntR_len {M : List Int} (h : MOk M) : ∀ n, cntR M n = (keysR M n).length
  | 0 => rfl
  | n + 1 => by
    have e := en_pos h n
    unfold keysR cntR
    rw [List.range_succ, List.filter_append, List.length_append, cntR_len h n]
    cases hg : (mGet M (n : Int)).isSome with
    | true => rw [hg] at e; rw [if_pos (by simpa using e)]; simp [keysR, hg]
    | false => rw [hg] at e; rw [if_neg (by simpa using e)]; simp [keysR, hg]
theorem keysR_perm {M : List Int} (h : MOk M) : ((keysR M 256).map fun (j : Nat) => (j : Int)).Perm (keysM M) := by
  apply (List.perm_ext_iff_of_nodup ?_ h.nd).2
  · intro k
    simp only [keysR, List.mem_map, List.mem_filter, List.mem_range]
    constructor
    · rintro ⟨j, ⟨_, hj⟩, rfl⟩
      rw [get_mem] at hj
      simpa using hj
    · intro hk
      obtain ⟨h0, h1⟩ := h.ky k hk
      exact ⟨k.toNat, ⟨by omega, by rw [get_mem, Int.toNat_of_nonneg h0]; simpa using hk⟩, by omega⟩
  · have : (keysR M 256).Nodup := List.nodup_range.sublist List.filter_sublist
    exact List.pairwise_map.2 (this.imp fun h e => h (Int.ofNat.inj e))
theorem cnt_all {M : List Int} (h : MOk M) : cntR M 256 = M.length / 2 := by
  rw [cntR_len h, ← keys_len _ h.ev, ← (keysR_perm h).length_eq, List.length_map]
end Lt
end Go.Proofs.Ytpgonpjakllnjaa
end

/-
  LinearTells (14): the reference's Count.
-/
section
namespace Go.Proofs.Ytpgonpjakllnjaa
open Go.Vm Go.Vm.Md Lm
namespace Lt

-- COUNT
def arA (c : IT) : AVal := .agg (uniC c 256)
def TC : Tpl := ⟨[(3, iV 22), (6, arA (.var 7)), (7, iV 9)], 16, [], 500, [q9 .geq at9 (.lit 0) true, q9 .leq at9 (.lit 256) true], 3⟩
def c9 (c : IT) : IT := .un 0 c (.elem (.lit 0) 1 0 at9)
def goC (b : Bool) : Cs := [q9 .lss at9 (.lit 256) true, q9 .gtr (c9 (.var 7)) (.lit 0) b]
def sC (a b : IT) : Sub := ⟨[(22, a), (7, .var 7), (9, b)], [], [], [], []⟩
theorem c_in : RCn 500 (spL []) 61 Try.f61 [TC] [arA (.var 7)] .leaf [] [.next 0 (.code (.loop (lb Try.f61 0)) :: lq Try.f61 0) [] (sC (.lit 0) (.lit 0))] := by unfold RCn; kernel_rfl
theorem c_y : RH (spL []) 61 Try.f61 0 [TC] TC (goC true) [.next 0 (.inLoop (lb Try.f61 0) :: lq Try.f61 0) [] (sC up22 up9)] := by unfold RH; kernel_rfl
theorem c_n : RH (spL []) 61 Try.f61 0 [TC] TC (goC false) [.next 0 (.inLoop (lb Try.f61 0) :: lq Try.f61 0) [] (sC (.var 22) up9)] := by unfold RH; kernel_rfl
theorem c_e : RH (spL []) 61 Try.f61 0 [TC] TC [q9 .lss at9 (.lit 256) false] [.ret (iV 22) []] := by unfold RH; kernel_rfl
structure JC (x : Int) (i : Nat) (ρ : Env) : Prop where
  i9 : ρ.I 9 = (i : Int)
  le : i ≤ 256
  i7 : ρ.I 7 = x
  i22 : ρ.I 22 = (cntX x i : Int)
theorem JC.of_le {x : Int} {i : Nat} {ρ ρ' : Env} (h : JC x i ρ) (g : ρ.Le ρ') : JC x i ρ' := ⟨by rw [g.i]; exact h.i9, h.le, by rw [g.i]; exact h.i7, by rw [g.i]; exact h.i22⟩
theorem JC.cs {x : Int} {i : Nat} {ρ : Env} (h : JC x i ρ) : CRel ρ TC.cs := by
  have := h.le
  exact qD (show at9.den ρ = _ from varD h.i9) (litD 0) (by simp [intCmp]) (qD (show at9.den ρ = _ from varD h.i9) (litD 256) (by simp [intCmp]; omega) c0)
theorem cntX_le (x : Int) : ∀ n, cntX x n ≤ n
  | 0 => Nat.le_refl _
  | n + 1 => by
    have := cntX_le x n
    unfold cntX; split <;> omega
def arV (x : Int) (n : Nat) : List Value := (List.range n).map fun j => .int .i64 ((decL x).getD j 0)
theorem c9_den {ρ : Env} {c : IT} {x : Int} {i : Nat} (hc : c.den ρ = some x) (h : ρ.I 9 = (i : Int)) : (c9 c).den ρ = some ((decL x).getD i 0) := by
  have := nthC_den (s := 0) (y := i) hc (show at9.den ρ = some (i : Int) from varD h)
  rw [Nat.zero_add] at this
  exact this
theorem count61 (w : World) (x : Int) : Calls Try.prog 61 #[.agg (arV x 256).toArray] w fun e w' => e = .returned (.int .i64 (cntX x 256)) ∧ Framed w w' := by
  obtain ⟨ρ, hρ⟩ : ∃ ρ : Env, ρ = ⟨fun _ => x, fun _ => false, fun _ => default, fun _ => undef, fun _ => none, F0⟩ := ⟨_, rfl⟩
  have h7 : ρ.I 7 = x := by rw [hρ]
  have hx : AVal.denL ρ [arA (.var 7)] = some [.agg (arV x 256).toArray] := denL1 (by
    have := uniC_den (n := 256) (varD h7)
    simp only [arA, AVal.den]
    rw [this]; rfl)
  have loop := scan (β := .plain w) (sp := spL []) (f := 61) (fn := Try.f61) (j := 0) (T := TC) (Ts := [TC]) (noSp0 _) rfl (Q := fun v => v = .int .i64 (cntX x 256)) (fun ρ => ∃ i, JC x i ρ) (fun ρ => ((256 : Int) - ρ.I 9).toNat) fun ρ ⟨i, j⟩ hG hcs _ ih => by
    have hi := j.le
    by_cases hlt : i < 256
    · have e9 : at9.den ρ = some (i : Int) := varD j.i9
      have ec := c9_den (varD j.i7) j.i9
      have h1 : CRel ρ [q9 .lss at9 (.lit 256) true] := qD e9 (litD 256) (by simp [intCmp]; omega) c0
      by_cases hp : 0 < (decL x).getD i 0
      · refine ⟨_, _, qD e9 (litD 256) (by simp [intCmp]; omega) (qD ec (litD 0) (by simp only [intCmp, Option.some.injEq, decide_eq_true_eq]; omega) c0), c_y, one (nextS rfl fun ρ' hle hG' => ?_)⟩
        have j' := j.of_le hle
        have hl := cntX_le x i
        have jn : JC x (i + 1) ((sC up22 up9).app ρ') := ⟨sbI (t := up9) rfl (upD (varD j'.i9) (by omega)), hlt, j'.i7, by rw [cntX, if_pos hp]; exact sbI (t := up22) rfl (upD (varD j'.i22) (by omega))⟩
        exact ⟨trivial, jn.cs, fun a w' r => ih _ (by rw [jn.i9, j.i9]; omega) ⟨_, jn⟩ _ a w' (.inl rfl) r⟩
      · refine ⟨_, _, qD e9 (litD 256) (by simp [intCmp]; omega) (qD ec (litD 0) (by simp only [intCmp, Option.some.injEq, decide_eq_false_iff_not]; omega) c0), c_n, one (nextS rfl fun ρ' hle hG' => ?_)⟩
        have j' := j.of_le hle
        have jn : JC x (i + 1) ((sC (.var 22) up9).app ρ') := ⟨sbI (t := up9) rfl (upD (varD j'.i9) (by omega)), hlt, j'.i7, by rw [cntX, if_neg hp]; exact j'.i22⟩
        exact ⟨trivial, jn.cs, fun a w' r => ih _ (by rw [jn.i9, j.i9]; omega) ⟨_, jn⟩ _ a w' (.inl rfl) r⟩
    · obtain rfl : i = 256 := by omega
      refine ⟨_, _, qD (show at9.den ρ = _ from varD j.i9) (litD 256) (by simp [intCmp]) c0, c_e, one (retS (z := .int .i64 (cntX x 256)) (fun ρ' hle => ?_) rfl)⟩
      simp only [iV, AVal.den, IT.den, (j.of_le hle).i22, Option.map_some]
  refine toE (callSn (β := .plain w) (noSp0 _) rfl Try.func61 rfl c_in hx (HRel.ro [] (fun p hp => by cases hp) (fun i _ => by rw [hρ]) trivial) c0 (one (nextS rfl fun ρ' hle hG' => ?_)))
  have jn : JC x 0 ((sC (.lit 0) (.lit 0)).app ρ') := ⟨rfl, by omega, by show ρ'.I 7 = x; rw [hle.i]; exact h7, rfl⟩
  exact ⟨trivial, jn.cs, fun a w' r => loop _ ⟨0, jn⟩ _ a w' (.inr rfl) r⟩
def spCount : SpG := fun args H nl cs => match args with
  | [.agg l] => match uniA l with
    | some (c, 0, _) => cond (AVal.beqL l (uniC c 256)) (some [.ret (.int .i64 (.fn 55 c (.lit 0))) H nl cs]) none
    | _ => none
  | _ => none
theorem spCount_ok {β : Base} (hG : ∀ I B S V F, β.G I B S V F → F 55 = f55) : SpGOk Try.prog β 61 spCount := by
  intro args H nl cs ls ρ w xs hr hx hh hc
  unfold spCount at hr
  split at hr
  rotate_left
  · cases hr
  rename_i l
  split at hr
  rotate_left
  · cases hr
  rename_i c n hu
  cases hb : AVal.beqL l (uniC c 256) with
  | false => rw [hb] at hr; cases hr
  | true =>
    rw [hb] at hr; simp only [cond_true, Option.some.injEq] at hr
    subst hr
    obtain rfl := AVal.beqL_eq _ _ hb
    cases hcd : c.den ρ with
    | none =>
      have hx : AVal.denL ρ [.agg (uniC c 256)] = some xs := hx
      have : AVal.denL ρ (uniC c 256) = none := by
        have e : uniC c 256 = .int .i64 (.un 0 c (.lit 0)) :: (uniC c 256).tail := rfl
        rw [e]
        simp only [AVal.denL, AVal.den, IT.den, hcd, Option.map_none]
      simp only [AVal.denL, AVal.den, this, Option.map_none] at hx
      cases hx
    | some x =>
      have hx' : AVal.denL ρ [.agg (uniC c 256)] = some [.agg (arV x 256).toArray] := denL1 (by
        have := uniC_den (n := 256) hcd
        simp only [AVal.den]
        rw [this]; rfl)
      obtain rfl : [.agg (arV x 256).toArray] = xs := Option.some.inj (hx'.symm.trans hx)
      refine spV_ok (count61 w x) ?_ hh hc
      simp only [AVal.den, fnD hcd (litD 0), hG _ _ _ _ _ hh.g, Option.map_some]
      rfl
end Lt
end Go.Proofs.Ytpgonpjakllnjaa
end
