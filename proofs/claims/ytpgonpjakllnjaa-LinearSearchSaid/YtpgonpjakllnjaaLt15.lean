/-
  LinearTells (12): the reference's Right.
-/
import Derived.Test.YtpgonpjakllnjaaLm3
import Derived.Test.YtpgonpjakllnjaaLt8
section
namespace Go.Proofs.Ytpgonpjakllnjaa
open Go.Vm

noncomputable def body58 : Code := Try.f58.body.getD .ret
theorem run58_0 : runR 58 Try.f58 body58 0 = some true := by kernel_rfl
theorem run58_1 : runR 58 Try.f58 body58 1 = some true := by kernel_rfl
theorem run58_2 : runR 58 Try.f58 body58 2 = some true := by kernel_rfl
theorem run58_3 : runR 58 Try.f58 body58 3 = some true := by kernel_rfl
theorem run58_4 : runR 58 Try.f58 body58 4 = some true := by kernel_rfl
theorem run58_5 : runR 58 Try.f58 body58 5 = some true := by kernel_rfl
theorem run58_6 : runR 58 Try.f58 body58 6 = some true := by kernel_rfl
theorem run58_7 : runR 58 Try.f58 body58 7 = some true := by kernel_rfl
theorem run58_8 : runR 58 Try.f58 body58 8 = some true := by kernel_rfl
theorem run58_9 : runR 58 Try.f58 body58 9 = some true := by kernel_rfl
theorem run58_10 : runR 58 Try.f58 body58 10 = some true := by kernel_rfl
theorem run58_11 : runR 58 Try.f58 body58 11 = some true := by kernel_rfl
theorem run58_12 : runR 58 Try.f58 body58 12 = some true := by kernel_rfl
theorem run58_13 : runR 58 Try.f58 body58 13 = some true := by kernel_rfl
theorem run58_14 : runR 58 Try.f58 body58 14 = some true := by kernel_rfl
theorem run58_low : runN 58 Try.f58 body58 true = some true := by kernel_rfl
theorem run58_high : runN 58 Try.f58 body58 false = some true := by kernel_rfl
theorem run58_all : ∀ c, c < 15 → runR 58 Try.f58 body58 c = some true := by
  intro c hc
  match c, hc with
  | 0, _ => exact run58_0
  | 1, _ => exact run58_1
  | 2, _ => exact run58_2
  | 3, _ => exact run58_3
  | 4, _ => exact run58_4
  | 5, _ => exact run58_5
  | 6, _ => exact run58_6
  | 7, _ => exact run58_7
  | 8, _ => exact run58_8
  | 9, _ => exact run58_9
  | 10, _ => exact run58_10
  | 11, _ => exact run58_11
  | 12, _ => exact run58_12
  | 13, _ => exact run58_13
  | 14, _ => exact run58_14
theorem run58_none : ∀ low, runN 58 Try.f58 body58 low = some true := by
  intro low
  cases low
  · exact run58_high
  · exact run58_low
theorem right58 : SpecOk Try.prog 58 spRight := spRight_ok Try.func58 rfl run58_all run58_none
end Go.Proofs.Ytpgonpjakllnjaa
end

/-
  LinearTells (13): the reference's models: of each key what it has and 1, or 0.
-/
section
section
namespace Go.Proofs.Ytpgonpjakllnjaa
open Go.Vm Go.Vm.Md Lm
namespace Lt

theorem arrL_get {M : List Int} {j : Nat} (h : j < 256) : (arrL M).getD j 0 = enM M j := by
  rw [arrL, List.getD_eq_getElem?_getD, List.getElem?_map, List.getElem?_range h]; rfl
/-- Keys and values are small; each key is there once. -/
structure MOk (M : List Int) : Prop where
  ev : M.length % 2 = 0
  nd : (keysM M).Nodup
  ky : ∀ k ∈ keysM M, 0 ≤ k ∧ k ≤ 255
  vl : ∀ k v, mGet M k = some v → 0 ≤ v ∧ v ≤ 1023
structure VOk (m : Mod) : Prop where
  qq : m.Q.length ≤ 256
  mm : MOk m.M
  ss : MOk m.S
theorem MOk.nil : MOk [] := ⟨rfl, List.nodup_nil, (fun k h => by cases h), (fun k v h => by cases h)⟩
theorem VOk0 : VOk mod0 := ⟨by decide, MOk.nil, MOk.nil⟩
theorem get_mem : ∀ (M : List Int) (k : Int), (mGet M k).isSome = decide (k ∈ keysM M)
  | [], k => by simp [mGet, keysM]
  | [_], k => by simp [mGet, keysM]
  | a :: b :: r, k => by
    by_cases h : a = k
    · simp [mGet, keysM, h]
    · have h' : ¬ k = a := fun e => h e.symm
      simp only [mGet, if_neg h, keysM, get_mem r k, List.mem_cons, h', false_or]
theorem get_del : ∀ (M : List Int) (k x : Int), (keysM M).Nodup → mGet (mDel M k) x = if k = x then none else mGet M x
  | [], k, x, _ => by simp [mDel, mGet]
  | [_], k, x, _ => by simp [mDel, mGet]
  | a :: b :: r, k, x, h => by
    simp only [keysM, List.nodup_cons] at h
    by_cases e : a = k
    · subst e
      simp only [mDel, if_true, mGet]
      by_cases e2 : a = x
      · subst e2
        rw [if_pos rfl]
        have := get_mem r a
        rw [decide_eq_false h.1] at this
        cases hg : mGet r a with
        | none => rfl
        | some v => rw [hg] at this; cases this
      · rw [if_neg e2, if_neg e2]
    · simp only [mDel, if_neg e, mGet, get_del r k x h.2]
      by_cases e2 : a = x
      · subst e2
        rw [if_pos rfl, if_neg (fun h => e h.symm), if_pos rfl]
      · rw [if_neg e2, if_neg e2]
theorem del_even : ∀ (M : List Int) (k : Int), M.length % 2 = 0 → (mDel M k).length % 2 = 0
  | [], k, _ => rfl
  | [_], k, h => by simp at h
  | a :: b :: r, k, h => by
    have hr : r.length % 2 = 0 := by simp only [List.length_cons] at h; omega
    by_cases e : a = k
    · simp only [mDel, e, if_true]; exact hr
    · have := del_even r k hr
      simp only [mDel, if_neg e, List.length_cons]; omega
theorem put_even (M : List Int) (k v : Int) (h : M.length % 2 = 0) : (mPut M k v).length % 2 = 0 := by
  rw [len_put M k v h]; split <;> omega
theorem MOk.put {M : List Int} (h : MOk M) {k v : Int} (hk : 0 ≤ k ∧ k ≤ 255) (hv : 0 ≤ v ∧ v ≤ 1023) : MOk (mPut M k v) := by
  refine ⟨put_even _ _ _ h.ev, ?_, fun x hx => ?_, fun x y hx => ?_⟩
  · rw [keysM_put]
    split
    · exact h.nd
    · rename_i hn
      exact List.nodup_append.2 ⟨h.nd, by simp, fun a ha b hb => by rw [List.mem_singleton.1 hb]; exact fun e => hn (e ▸ ha)⟩
  · rw [keysM_put] at hx
    split at hx
    · exact h.ky x hx
    · rcases List.mem_append.1 hx with hx | hx
      · exact h.ky x hx
      · rw [List.mem_singleton.1 hx]; exact hk
  · rw [get_put _ _ _ _ h.ev] at hx
    split at hx
    · cases hx; exact hv
    · exact h.vl x y hx
theorem MOk.del {M : List Int} (h : MOk M) (k : Int) : MOk (mDel M k) := by
  refine ⟨del_even _ _ h.ev, (keysM_del M k).nodup h.nd, fun x hx => h.ky x ((keysM_del M k).subset hx), fun x y hx => ?_⟩
  rw [get_del _ _ _ h.nd] at hx
  split at hx
  · cases hx
  · exact h.vl x y hx
theorem MOk.en {M : List Int} (h : MOk M) (j : Nat) : 0 ≤ enM M j ∧ enM M j ≤ 1024 := by
  unfold enM
  cases hg : mGet M (j : Int) with
  | none => exact ⟨Int.le_refl _, by decide⟩
  | some v => have := h.vl _ _ hg; simp only [encO]; omega
theorem arrL_put {M : List Int} (h : MOk M) (k v : Int) : arrL (mPut M k v) = (List.range 256).map fun (j : Nat) => if (j : Int) = k then v + 1 else enM M j := by
  unfold arrL
  apply List.map_congr_left
  intro j _
  unfold enM
  rw [get_put _ _ _ _ h.ev]
  by_cases e : (j : Int) = k
  · rw [if_pos e, if_pos e.symm]; rfl
  · rw [if_neg e, if_neg (fun h => e h.symm)]
theorem arrL_del {M : List Int} (h : MOk M) (k : Int) : arrL (mDel M k) = (List.range 256).map fun (j : Nat) => if (j : Int) = k then 0 else enM M j := by
  unfold arrL
  apply List.map_congr_left
  intro j _
  unfold enM
  rw [get_del _ _ _ h.nd]
  by_cases e : (j : Int) = k
  · rw [if_pos e, if_pos e.symm]; rfl
  · rw [if_neg e, if_neg (fun h => e h.symm)]
theorem univ21_arr (M : List Int) (k v : Int) : univ 21 (encL (arrL M)) (univ 1 k v) = encL ((List.range 256).map fun (j : Nat) => if (j : Int) = k then v else enM M j) := by
  rw [univ21]
  congr 1
  apply List.map_congr_left
  intro j hj
  rw [decL_encL, arrL_get (List.mem_range.1 hj)]
-- HOW MANY
theorem keys_len : ∀ (M : List Int), M.length % 2 = 0 → (keysM M).length = M.length / 2
  | [], _ => rfl
  | [_], h => by simp at h
  | a :: b :: r, h => by
    have hr : r.length % 2 = 0 := by simp only [List.length_cons] at h; omega
    simp only [keysM, List.length_cons, keys_len r hr]; omega
/-- The keys that are there, rising. -/
def keysR (M : List Int) (n : Nat) : List Nat := (List.range n).filter fun j => (mGet M (j : Int)).isSome
def cntR (M : List Int) : Nat → Nat
  | 0 => 0
  | n + 1 => if 0 < enM M n then cntR M n + 1 else cntR M n
theorem en_pos {M : List Int} (h : MOk M) (j : Nat) : decide (0 < enM M j) = (mGet M (j : Int)).isSome := by
  unfold enM
  cases hg : mGet M (j : Int) with
  | none => rfl
  | some v =>
    have := h.vl _ _ hg
    show decide (0 < v + 1) = true
    exact decide_eq_true (by omega)
theorem cntR_len {M : List Int} (h : MOk M) : ∀ n, cntR M n = (keysR M n).length
  | 0 => rfl
  | n + 1 => by
    have e := en_pos h n
    unfold keysR cntR
    rw [List.range_succ, List.filter_append, List.length_append, cntR_len h n]
    cases hg : (mGet M (n : Int)).isSome with
    | true => rw [hg] at e; rw [if_pos (by simpa using e)]; simp [keysR, hg]
    | false => rw [hg] at e; rw [if_neg (by simpa using e)]; simp [keysR, hg]
theorem keysR_perm {M : List Int} (h : MOk M) : ((keysR M 256).map fun (j : Nat) => (j : Int)).Perm (keysM M) := by
  apply (List.perm_ext_iff_of_nodup ?_ h.nd).2
  · intro k
    simp only [keysR, List.mem_map, List.mem_filter, List.mem_range]
    constructor
    · rintro ⟨j, ⟨_, hj⟩, rfl⟩
      rw [get_mem] at hj
      simpa using hj
    · intro hk
      obtain ⟨h0, h1⟩ := h.ky k hk
      exact ⟨k.toNat, ⟨by omega, by rw [get_mem, Int.toNat_of_nonneg h0]; simpa using hk⟩, by omega⟩
  · have : (keysR M 256).Nodup := List.nodup_range.sublist List.filter_sublist
    exact List.pairwise_map.2 (this.imp fun h e => h (Int.ofNat.inj e))
theorem cnt_all {M : List Int} (h : MOk M) : cntR M 256 = M.length / 2 := by
  rw [cntR_len h, ← keys_len _ h.ev, ← (keysR_perm h).length_eq, List.length_map]
end Lt
end Go.Proofs.Ytpgonpjakllnjaa
end

/-
  LinearTells (14): the reference's Count.
-/
section
namespace Go.Proofs.Ytpgonpjakllnjaa
open Go.Vm Go.Vm.Md Lm
namespace Lt

-- COUNT
def arA (c : IT) : AVal := .agg (uniC c 256)
def TC : Tpl := ⟨[(3, iV 22), (6, arA (.var 7)), (7, iV 9)], 16, [], 500, [q9 .geq at9 (.lit 0) true, q9 .leq at9 (.lit 256) true], 3⟩
def c9 (c : IT) : IT := .un 0 c (.elem (.lit 0) 1 0 at9)
def goC (b : Bool) : Cs := [q9 .lss at9 (.lit 256) true, q9 .gtr (c9 (.var 7)) (.lit 0) b]
def sC (a b : IT) : Sub := ⟨[(22, a), (7, .var 7), (9, b)], [], [], [], []⟩
theorem c_in : RCn 500 (spL []) 61 Try.f61 [TC] [arA (.var 7)] .leaf [] [.next 0 (.code (.loop (lb Try.f61 0)) :: lq Try.f61 0) [] (sC (.lit 0) (.lit 0))] := by unfold RCn; kernel_rfl
theorem c_y : RH (spL []) 61 Try.f61 0 [TC] TC (goC true) [.next 0 (.inLoop (lb Try.f61 0) :: lq Try.f61 0) [] (sC up22 up9)] := by unfold RH; kernel_rfl
theorem c_n : RH (spL []) 61 Try.f61 0 [TC] TC (goC false) [.next 0 (.inLoop (lb Try.f61 0) :: lq Try.f61 0) [] (sC (.var 22) up9)] := by unfold RH; kernel_rfl
theorem c_e : RH (spL []) 61 Try.f61 0 [TC] TC [q9 .lss at9 (.lit 256) false] [.ret (iV 22) []] := by unfold RH; kernel_rfl
structure JC (x : Int) (i : Nat) (ρ : Env) : Prop where
  i9 : ρ.I 9 = (i : Int)
  le : i ≤ 256
  i7 : ρ.I 7 = x
  i22 : ρ.I 22 = (cntX x i : Int)
theorem JC.of_le {x : Int} {i : Nat} {ρ ρ' : Env} (h : JC x i ρ) (g : ρ.Le ρ') : JC x i ρ' := ⟨by rw [g.i]; exact h.i9, h.le, by rw [g.i]; exact h.i7, by rw [g.i]; exact h.i22⟩
theorem JC.cs {x : Int} {i : Nat} {ρ : Env} (h : JC x i ρ) : CRel ρ TC.cs := by
  have := h.le
  exact qD (show at9.den ρ = _ from varD h.i9) (litD 0) (by simp [intCmp]) (qD (show at9.den ρ = _ from varD h.i9) (litD 256) (by simp [intCmp]; omega) c0)
theorem cntX_le (x : Int) : ∀ n, cntX x n ≤ n
  | 0 => Nat.le_refl _
  | n + 1 => by
    have := cntX_le x n
    unfold cntX; split <;> omega
def arV (x : Int) (n : Nat) : List Value := (List.range n).map fun j => .int .i64 ((decL x).getD j 0)
theorem c9_den {ρ : Env} {c : IT} {x : Int} {i : Nat} (hc : c.den ρ = some x) (h : ρ.I 9 = (i : Int)) : (c9 c).den ρ = some ((decL x).getD i 0) := by
  have := nthC_den (s := 0) (y := i) hc (show at9.den ρ = some (i : Int) from varD h)
  rw [Nat.zero_add] at this
  exact this
theorem count61 (w : World) (x : Int) : Calls Try.prog 61 #[.agg (arV x 256).toArray] w fun e w' => e = .returned (.int .i64 (cntX x 256)) ∧ Framed w w' := by
  obtain ⟨ρ, hρ⟩ : ∃ ρ : Env, ρ = ⟨fun _ => x, fun _ => false, fun _ => default, fun _ => undef, fun _ => none, F0⟩ := ⟨_, rfl⟩
  have h7 : ρ.I 7 = x := by rw [hρ]
  have hx : AVal.denL ρ [arA (.var 7)] = some [.agg (arV x 256).toArray] := denL1 (by
    have := uniC_den (n := 256) (varD h7)
    simp only [arA, AVal.den]
    rw [this]; rfl)
  have loop := scan (β := .plain w) (sp := spL []) (f := 61) (fn := Try.f61) (j := 0) (T := TC) (Ts := [TC]) (noSp0 _) rfl (Q := fun v => v = .int .i64 (cntX x 256)) (fun ρ => ∃ i, JC x i ρ) (fun ρ => ((256 : Int) - ρ.I 9).toNat) fun ρ ⟨i, j⟩ hG hcs _ ih => by
    have hi := j.le
    by_cases hlt : i < 256
    · have e9 : at9.den ρ = some (i : Int) := varD j.i9
      have ec := c9_den (varD j.i7) j.i9
      have h1 : CRel ρ [q9 .lss at9 (.lit 256) true] := qD e9 (litD 256) (by simp [intCmp]; omega) c0
      by_cases hp : 0 < (decL x).getD i 0
      · refine ⟨_, _, qD e9 (litD 256) (by simp [intCmp]; omega) (qD ec (litD 0) (by simp only [intCmp, Option.some.injEq, decide_eq_true_eq]; omega) c0), c_y, one (nextS rfl fun ρ' hle hG' => ?_)⟩
        have j' := j.of_le hle
        have hl := cntX_le x i
        have jn : JC x (i + 1) ((sC up22 up9).app ρ') := ⟨sbI (t := up9) rfl (upD (varD j'.i9) (by omega)), hlt, j'.i7, by rw [cntX, if_pos hp]; exact sbI (t := up22) rfl (upD (varD j'.i22) (by omega))⟩
        exact ⟨trivial, jn.cs, fun a w' r => ih _ (by rw [jn.i9, j.i9]; omega) ⟨_, jn⟩ _ a w' (.inl rfl) r⟩
      · refine ⟨_, _, qD e9 (litD 256) (by simp [intCmp]; omega) (qD ec (litD 0) (by simp only [intCmp, Option.some.injEq, decide_eq_false_iff_not]; omega) c0), c_n, one (nextS rfl fun ρ' hle hG' => ?_)⟩
        have j' := j.of_le hle
        have jn : JC x (i + 1) ((sC (.var 22) up9).app ρ') := ⟨sbI (t := up9) rfl (upD (varD j'.i9) (by omega)), hlt, j'.i7, by rw [cntX, if_neg hp]; exact j'.i22⟩
        exact ⟨trivial, jn.cs, fun a w' r => ih _ (by rw [jn.i9, j.i9]; omega) ⟨_, jn⟩ _ a w' (.inl rfl) r⟩
    · obtain rfl : i = 256 := by omega
      refine ⟨_, _, qD (show at9.den ρ = _ from varD j.i9) (litD 256) (by simp [intCmp]) c0, c_e, one (retS (z := .int .i64 (cntX x 256)) (fun ρ' hle => ?_) rfl)⟩
      simp only [iV, AVal.den, IT.den, (j.of_le hle).i22, Option.map_some]
  refine toE (callSn (β := .plain w) (noSp0 _) rfl Try.func61 rfl c_in hx (HRel.ro [] (fun p hp => by cases hp) (fun i _ => by rw [hρ]) trivial) c0 (one (nextS rfl fun ρ' hle hG' => ?_)))
  have jn : JC x 0 ((sC (.lit 0) (.lit 0)).app ρ') := ⟨rfl, by omega, by show ρ'.I 7 = x; rw [hle.i]; exact h7, rfl⟩
  exact ⟨trivial, jn.cs, fun a w' r => loop _ ⟨0, jn⟩ _ a w' (.inr rfl) r⟩
def spCount : SpG := fun args H nl cs => match args with
  | [.agg l] => match uniA l with
    | some (c, 0, _) => cond (AVal.beqL l (uniC c 256)) (some [.ret (.int .i64 (.fn 55 c (.lit 0))) H nl cs]) none
    | _ => none
  | _ => none
theorem spCount_ok {β : Base} (hG : ∀ I B S V F, β.G I B S V F → F 55 = f55) : SpGOk Try.prog β 61 spCount := by
  intro args H nl cs ls ρ w xs hr hx hh hc
  unfold spCount at hr
  split at hr
  rotate_left
  · cases hr
  rename_i l
  split at hr
  rotate_left
  · cases hr
  rename_i c n hu
  cases hb : AVal.beqL l (uniC c 256) with
  | false => rw [hb] at hr; cases hr
  | true =>
    rw [hb] at hr; simp only [cond_true, Option.some.injEq] at hr
    subst hr
    obtain rfl := AVal.beqL_eq _ _ hb
    cases hcd : c.den ρ with
    | none =>
      have hx : AVal.denL ρ [.agg (uniC c 256)] = some xs := hx
      have : AVal.denL ρ (uniC c 256) = none := by
        have e : uniC c 256 = .int .i64 (.un 0 c (.lit 0)) :: (uniC c 256).tail := rfl
        rw [e]
        simp only [AVal.denL, AVal.den, IT.den, hcd, Option.map_none]
      simp only [AVal.denL, AVal.den, this, Option.map_none] at hx
      cases hx
    | some x =>
      have hx' : AVal.denL ρ [.agg (uniC c 256)] = some [.agg (arV x 256).toArray] := denL1 (by
        have := uniC_den (n := 256) hcd
        simp only [AVal.den]
        rw [this]; rfl)
      obtain rfl : [.agg (arV x 256).toArray] = xs := Option.some.inj (hx'.symm.trans hx)
      refine spV_ok (count61 w x) ?_ hh hc
      simp only [AVal.den, fnD hcd (litD 0), hG _ _ _ _ _ hh.g, Option.map_some]
      rfl
end Lt
end Go.Proofs.Ytpgonpjakllnjaa
end
end

/-
  LinearTells (15): the runs of the reference's Apply.
-/
section
namespace Go.Proofs.Ytpgonpjakllnjaa
open Go.Vm Go.Vm.Md Lm
namespace Lt

/-- A model of the reference, by value: its queue's slice, of each key what the map has and 1, of each what the semaphores have and 1. -/
def rmA (q : AVal) (cM cS : IT) : AVal := .agg (q :: (uniC cM 256 ++ uniC cS 256))
def qv : Kd → AVal
  | .nil => .sliceNil
  | .zero => .slice 2 (.var 11) (.lit 0) (.lit 0)
  | .row => .slice 2 (.lit 0) (.var 6) (.nv 4)
def qBk : ABlk := .arr (.code [.i64] (.var 5)) [.i64] 3 (.var 6) (.lit 0) (some (.nv 4))
def HQ (z : Kd) : List (Nat × ABlk) := z.blk 2 qBk
def csQ' : Kd → Cs
  | .row => [q9 .geq (.var 6) (.lit 1) true, q9 .leq (.var 6) (.lit 256) true, q9 .leq (.var 6) (.lit 1000000) true]
  | _ => []
def opN (c : Nat) : AVal := .agg [.int .i64 (.lit (.ofNat c)), iV 14, iV 15, iV 16]
def fRN (c : Nat) (b : Bool) : Cs := [(tRight (.lit (.ofNat c)) (.var 14) (.var 15) (.var 16), b)]
def kC : Cs := [q9 .geq (.var 14) (.lit 0) true, q9 .lss (.var 14) (.lit 256) true]
def ansN : AVal := .agg [iV 24, iV 25]
def nwB : HB := ⟨.arr (.code [.i64] (.var 26)) [.i64] 3 (.var 27) (.lit 0) (some (.nv 10)), true⟩
def eW : Tpl := ⟨[(0, .tuple [rmA (.slice 9 (.lit 0) (.var 27) (.nv 10)) (.var 22) (.var 23), ansN])], 1, [(9, nwB)], 20, [], 0⟩
def eK (z : Kd) : Tpl := ⟨[(0, .tuple [rmA (qv z) (.var 22) (.var 23), ansN])], 1, roH (HQ z), 20, [], 0⟩
def eZ : Tpl := ⟨[(0, .tuple [rmA (.slice 9 (.lit 0) (.lit 0) (.lit 0)) (.var 22) (.var 23), ansN])], 1, [], 20, [], 0⟩
def Rs (z : Kd) : List Tpl := [eW, eK z, eZ]
def gT (c : IT) : IT := .un 0 c (.elem (.lit 0) 1 0 (.var 14))
def spAp : CallF := spL [(58, spA spRight), (61, spCount)]
def sK (z : Kd) (tM tS tk tv : IT) : Sub := match z with
  | .nil => ⟨[(22, tM), (23, tS), (24, tk), (25, tv)], [], [], [], []⟩
  | .zero => ⟨[(11, .var 11), (22, tM), (23, tS), (24, tk), (25, tv)], [], [], [], [(2, 2)]⟩
  | .row => ⟨[(6, .var 6), (22, tM), (23, tS), (24, tk), (25, tv), (5, .var 5)], [], [], [], [(2, 2), (4, 4)]⟩
def csP (z : Kd) (c : Nat) (f : Cs) : Cs := fRN c true ++ kC ++ csQ' z ++ f
noncomputable def PK (z : Kd) (c : Nat) (f : Cs) (tM tS tk tv : IT) : Prop := RCM spAp 37 Try.f37 (Rs z) [] [rmA (qv z) (.var 7) (.var 8), opN c] (ofP (roH (HQ z))) (csP z c f) [.done 1 [] (sK z tM tS tk tv)]
def m7 : IT := gT (.var 7)
def s8 : IT := gT (.var 8)
def upT (t : IT) : IT := .bin .add .i64 t (.lit 1)
def dnT (t : IT) : IT := .bin .sub .i64 t (.lit 1)
def put7 (t : IT) : IT := .un 21 (.var 7) (.un 1 (.var 14) t)
def put8 (t : IT) : IT := .un 21 (.var 8) (.un 1 (.var 14) t)
def hz (t : IT) (b : Bool) : Cs := [q9 .eql t (.lit 0) b]
def ans (t : IT) (b : Bool) : IT × IT := cond b (.lit 1, .lit 0) (.lit 0, dnT t)
def f7u : Cs := [q9 .gtr m7 (.lit 0) true, q9 .neq m7 (upT (.var 15)) true]
def f7y : Cs := [q9 .gtr m7 (.lit 0) true, q9 .neq m7 (upT (.var 15)) false] ++ hz m7 false
def f7n : Cs := [q9 .gtr m7 (.lit 0) false] ++ hz m7 true
def fSe (e : Int) : Cs := [q9 .eql s8 (.lit e) true]
def fSy (e : Int) (t : IT) : Cs := [q9 .eql s8 (.lit e) false, q9 .gtr s8 (.lit 0) true] ++ hz (gT (put8 t)) false
def fSn (e : Int) : Cs := [q9 .eql s8 (.lit e) false, q9 .gtr s8 (.lit 0) false] ++ hz s8 true
def nQ : Kd → IT
  | .row => .var 6
  | _ => .lit 0
def v7 : IT := .var 7
def v8 : IT := .var 8
theorem k0 (z : Kd) : PK z 0 [] v7 v8 (.lit 1) (.lit 0) := by unfold PK RCM; cases z <;> kernel_rfl
theorem k3 (z : Kd) : PK z 3 [] v7 v8 (.lit 0) (nQ z) := by unfold PK RCM; cases z <;> kernel_rfl
theorem k8 (z : Kd) : PK z 8 [] v7 v8 (.lit 0) (.fn 55 (.var 7) (.lit 0)) := by unfold PK RCM; cases z <;> kernel_rfl
theorem k4 (z : Kd) (b : Bool) : PK z 4 (hz m7 b) v7 v8 (ans m7 b).1 (ans m7 b).2 := by unfold PK RCM; cases z <;> cases b <;> kernel_rfl
theorem k5 (z : Kd) (b : Bool) : PK z 5 (hz m7 b) (put7 (upT (.var 15))) v8 (ans m7 b).1 (ans m7 b).2 := by unfold PK RCM; cases z <;> cases b <;> kernel_rfl
theorem k6 (z : Kd) (b : Bool) : PK z 6 (hz m7 b) (put7 (.lit 0)) v8 (ans m7 b).1 (ans m7 b).2 := by unfold PK RCM; cases z <;> cases b <;> kernel_rfl
theorem k7u (z : Kd) : PK z 7 f7u v7 v8 (.lit 4) (dnT m7) := by unfold PK RCM; cases z <;> kernel_rfl
theorem k7y (z : Kd) : PK z 7 f7y (put7 (upT (.var 16))) v8 (.lit 0) (dnT m7) := by unfold PK RCM; cases z <;> kernel_rfl
theorem k7n (z : Kd) : PK z 7 f7n v7 v8 (.lit 1) (.lit 0) := by unfold PK RCM; cases z <;> kernel_rfl
theorem k10 (z : Kd) (b : Bool) : PK z 10 (hz s8 b) v7 (put8 (upT (.var 15))) (ans s8 b).1 (ans s8 b).2 := by unfold PK RCM; cases z <;> cases b <;> kernel_rfl
theorem k11e (z : Kd) : PK z 11 (fSe 1) v7 v8 (.lit 3) (.lit 0) := by unfold PK RCM; cases z <;> kernel_rfl
theorem k11y (z : Kd) : PK z 11 (fSy 1 (dnT s8)) v7 (put8 (dnT s8)) (.lit 0) (dnT (gT (put8 (dnT s8)))) := by unfold PK RCM; cases z <;> kernel_rfl
theorem k11n (z : Kd) : PK z 11 (fSn 1) v7 v8 (.lit 1) (.lit 0) := by unfold PK RCM; cases z <;> kernel_rfl
theorem k12e (z : Kd) : PK z 12 (fSe 1024) v7 v8 (.lit 2) (.lit 0) := by unfold PK RCM; cases z <;> kernel_rfl
theorem k12y (z : Kd) : PK z 12 (fSy 1024 (upT s8)) v7 (put8 (upT s8)) (.lit 0) (dnT (gT (put8 (upT s8)))) := by unfold PK RCM; cases z <;> kernel_rfl
theorem k12n (z : Kd) : PK z 12 (fSn 1024) v7 v8 (.lit 1) (.lit 0) := by unfold PK RCM; cases z <;> kernel_rfl
theorem k13 (z : Kd) (b : Bool) : PK z 13 (hz s8 b) v7 v8 (ans s8 b).1 (ans s8 b).2 := by unfold PK RCM; cases z <;> cases b <;> kernel_rfl
theorem k14 (z : Kd) (b : Bool) : PK z 14 (hz s8 b) v7 (put8 (.lit 0)) (ans s8 b).1 (ans s8 b).2 := by unfold PK RCM; cases z <;> cases b <;> kernel_rfl
theorem k1f : PK .row 1 [q9 .gtr (.var 6) (.lit 255) true] v7 v8 (.lit 2) (.lit 0) := by unfold PK RCM; kernel_rfl
theorem k2n (z : Kd) (h : z ≠ .row) : PK z 2 [] v7 v8 (.lit 1) (.lit 0) := by unfold PK RCM; cases z <;> first | exact absurd rfl h | kernel_rfl
/-- The ends with a new row; with an empty one. -/
def sW (tn tc tk tv : IT) (a b : Nat) : Sub := ⟨[(27, tn), (22, v7), (23, v8), (24, tk), (25, tv), (26, tc)], [], [], [], [(9, a), (10, b)]⟩
def s1n : Sub := sW (.lit 1) (.un 3 (.lit 0) (.var 15)) (.lit 0) (.lit 1) 507 506
def s1r : Sub := sW (upT (.var 6)) (.un 3 (.var 5) (.var 15)) (.lit 0) (upT (.var 6)) 509 508
def s2r : Sub := sW (.un 14 (.var 6) (.lit 1)) (.un 11 (.var 5) (.lit 1)) (.lit 0) (.un 0 (.var 5) (.elem (.lit 0) 1 0 (.lit 0))) 506 505
def s2o : Sub := ⟨[(22, v7), (23, v8), (24, .lit 0), (25, .var 5)], [], [], [], [(9, 504)]⟩
theorem k1n (z : Kd) (h : z ≠ .row) : RCM spAp 37 Try.f37 (Rs z) [] [rmA (qv z) (.var 7) (.var 8), opN 1] (ofP (roH (HQ z))) (csP z 1 []) [.done 0 [] s1n] := by unfold RCM; cases z <;> first | exact absurd rfl h | kernel_rfl
theorem k1r : RCM spAp 37 Try.f37 (Rs .row) [] [rmA (qv .row) (.var 7) (.var 8), opN 1] (ofP (roH (HQ .row))) (csP .row 1 [q9 .gtr (.var 6) (.lit 255) false]) [.done 0 [] s1r, .done 0 [] s1r, .done 0 [] s1r] := by unfold RCM; kernel_rfl
def f2 : Cs := [q9 .leq (.lit 1) (.var 6) true, q9 .lss (.lit 0) (.var 6) true, q9 .eql (.var 6) (.lit 0) false, q9 .geq (.lit 1) (.lit 0) true, q9 .geq (.lit 0) (.lit 0) true, q9 .geq (.un 14 (.var 6) (.lit 1)) (.lit 1) true, q9 .leq (.un 14 (.var 6) (.lit 1)) (.lit 1000000) true]
theorem k2r : RCM spAp 37 Try.f37 (Rs .row) [] [rmA (qv .row) (.var 7) (.var 8), opN 2] (ofP (roH (HQ .row))) (csP .row 2 f2) [.done 0 [] s2r] := by unfold RCM; kernel_rfl
def qOne : AVal := .slice 2 (.lit 0) (.lit 1) (.nv 4)
def bOne : Nat × ABlk := (2, .cells [iV 5] 3 (some (4, 1)))
theorem k2o : RCM spAp 37 Try.f37 (Rs .nil) [] [rmA qOne (.var 7) (.var 8), opN 2] (ofP (roH [bOne])) (fRN 2 true ++ kC) [.done 2 [] s2o] := by unfold RCM; kernel_rfl
def opW : AVal := .agg [iV 13, iV 14, iV 15, iV 16]
theorem kw (z : Kd) : RCM spAp 37 Try.f37 (Rs z) [] [rmA (qv z) (.var 7) (.var 8), opW] (ofP (roH (HQ z))) ([(tRight (.var 13) (.var 14) (.var 15) (.var 16), false)] ++ csQ' z) [.done 1 [] (sK z v7 v8 (.lit 1) (.lit 0))] := by unfold RCM; cases z <;> kernel_rfl
end Lt
end Go.Proofs.Ytpgonpjakllnjaa
end
