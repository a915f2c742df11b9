/-
  LeastPlays (2): the reference's Has.
-/
import Derived.Test.YtlcjgmehccopkaaLa1
namespace Go.Proofs.Ytlcjgmehccopkaa
open Go.Vm Go.Vm.Le
namespace La
open Lp

/-- The reference's row: nil if it has no number. -/
def RowIn (w : World) (v : Value) (K : List Int) : Prop := (K = [] ∧ v = .slice none 0 0) ∨ (K ≠ [] ∧ ∃ (b cap : Nat) (c : Array Value) (el : TypeId) (fr : Nat × Nat), v = .slice (some ⟨b, 0, none⟩) K.length cap ∧ w.heap[b]? = some (.cells c el fr) ∧ K.map (Value.int .i64) <+: c.toList)
theorem RowIn.framed {w w' : World} {v : Value} {K : List Int} (h : RowIn w v K) (f : Framed w w') : RowIn w' v K := by
  rcases h with h | ⟨h1, b, cap, c, el, fr, h2, h3, h4⟩
  · exact .inl h
  · exact .inr ⟨h1, b, cap, c, el, fr, h2, by rw [f.frame _ (Array.getElem?_eq_some_iff.1 h3).1]; exact h3, h4⟩
def stV (most h : Int) (v : Value) : Value := .agg #[.int .i64 most, .int .i64 h, v]
/-- What the walk over a row begins with. -/
def envR (most h n : Int) (K : List Int) (b cap : Nat) : Env :=
  ⟨fun i => if i = 30 then K.length else if i = 32 then cap else if i = 33 then encL K else if i = 34 then most else if i = 35 then h else if i = 36 then n else 0, fun _ => false, fun _ => default, fun _ => undef, fun i => if i = 0 then some b else none, F0⟩
theorem lvB_rel {c : Array Value} {el : TypeId} {fr : Nat × Nat} {K : List Int} {ρ : Env} (h30 : ρ.I 30 = K.length) (h33 : ρ.I 33 = encL K) (hp : K.map (Value.int .i64) <+: c.toList) : lvB.rel ρ false (.cells c el fr) := by
  refine ⟨rowOf [.i64] K, c, fr, el, K.length, 0, rfl, (fun e => by cases e), ?_, rfl, ⟨Nat.zero_le _, ?_⟩, congrArg some h30, rowOf_typed (by simp), trivial, (fun e => by cases e)⟩
  · show (some (ρ.I 33)).map (fun x => rowOf [.i64] (decL x)) = _
    rw [Option.map_some, h33, decL_encL]
  · rw [List.drop_zero, rowOf1]; exact hp
theorem start_row {w : World} {most h n : Int} {K : List Int} {b cap : Nat} {c : Array Value} {el : TypeId} {fr : Nat × Nat} (hob : w.heap[b]? = some (.cells c el fr)) (hp : K.map (Value.int .i64) <+: c.toList) : HRel (.plain w) (envR most h n K b cap) (ofP (lH true)) 1 w := by
  refine HRel.ro (lL true) (fun p hp' => ?_) (fun i hi => if_neg (by omega)) trivial
  simp only [lL, cond_true, List.mem_singleton] at hp'
  subst hp'
  exact ⟨b, _, rfl, hob, lvB_rel rfl rfl hp⟩
theorem start_nil {w : World} {most h n : Int} : HRel (.plain w) (⟨(envR most h n [] 0 0).I, fun _ => false, fun _ => default, fun _ => undef, fun _ => none, F0⟩ : Env) (ofP (lH false)) 1 w :=
  HRel.ro [] (fun p hp' => by cases hp') (fun i hi => rfl) trivial
theorem csL_ok {ρ : Env} {K : List Int} (h30 : ρ.I 30 = K.length) (h0 : K ≠ []) (h1 : K.length ≤ 70000) : CRel ρ csL := by
  have := List.length_pos_iff.2 h0
  exact c1 (geqT (varD h30) (litD 1) (by omega)) (c1 (leqT (varD h30) (litD 70000) (by omega)) c0)
theorem atL_den {ρ : Env} {K : List Int} {i : Nat} (h33 : ρ.I 33 = encL K) (h1 : ρ.I 1 = (i : Int)) : atL.den ρ = some (K.getD i 0) := by
  have e : (IT.elem (.lit 0) 1 0 (.var 1)).den ρ = some ((i : Nat) : Int) := by
    rw [elemD (x := 0) (y := i) (litD 0) (varD h1)]; congr 2; omega
  rw [show atL = .un 0 (.var 33) (.elem (.lit 0) 1 0 (.var 1)) from rfl, unD (varD h33) e]
  show some ((decL (encL K)).getD ((i : Int)).toNat 0) = _
  rw [decL_encL, Int.toNat_natCast]
theorem mem_take_succ {K : List Int} {n : Int} {i : Nat} (hi : i < K.length) (h : n ∉ K.take i) (hn : K.getD i 0 ≠ n) : n ∉ K.take (i + 1) := by
  rw [List.take_add_one, List.mem_append]
  rintro (h1 | h1)
  · exact h h1
  · rw [List.getElem?_eq_getElem hi] at h1
    simp only [Option.toList_some, List.mem_singleton] at h1
    rw [List.getD_eq_getElem?_getD, List.getElem?_eq_getElem hi] at hn
    exact hn h1.symm
-- HAS
noncomputable def hb0 : Code := ((loopsOf (Try.f16.body.getD .ret) []).getD 0 (.ret, [])).1
noncomputable def hk0 : List Item := ((loopsOf (Try.f16.body.getD .ret) []).getD 0 (.ret, [])).2
def sH (t : IT) : Sub := ⟨[(1, t)], [], [], [], [(0, 0)]⟩
noncomputable def RunH (c : Cs) (l : LS) : Prop := (run Try.prog [] (spL []) 4000 true 16 ((⟨X0.tm, X0.nt, X0.H, X0.nl, c ++ X0.cs, X0.dep⟩ : Tpl).st (.code hb0 :: .inLoop hb0 :: hk0))).map (·.filterMap (sumD gA [X0])) = some [l]
theorem h_in : (run Try.prog [] (spL []) 4000 true 16 (entry Try.f16 (Try.f16.body.getD .ret) [stA true, iV 36] (ofP (lH true)) 1 csL)).map (·.filterMap (sumD gA [X0])) = some [.next 0 (.code (.loop hb0) :: hk0) [] (sH (.lit 0))] := by kernel_rfl
theorem h_nil : (run Try.prog [] (spL []) 4000 false 16 (entry Try.f16 (Try.f16.body.getD .ret) [stA false, iV 36] (ofP (lH false)) 1 [])).map (·.filterMap (sumD gA [X0])) = some [.ret (.bool (.lit false)) []] := by kernel_rfl
theorem h_t : RunH (fi true ++ fe true) (.ret (.bool (.lit true)) []) := by unfold RunH; kernel_rfl
theorem h_f : RunH (fi true ++ fe false) (.next 0 (.inLoop hb0 :: hk0) [] (sH (.bin .add .i64 (.var 1) (.lit 1)))) := by unfold RunH; kernel_rfl
theorem h_e : RunH (fi false) (.ret (.bool (.lit false)) []) := by unfold RunH; kernel_rfl
structure Jh (n : Int) (K : List Int) (i : Nat) (ρ : Env) : Prop where
  n36 : ρ.I 36 = n
  k33 : ρ.I 33 = encL K
  l30 : ρ.I 30 = K.length
  i1 : ρ.I 1 = (i : Int)
  il : i ≤ K.length
  no : n ∉ K.take i
theorem Jh.of_le {n : Int} {K : List Int} {i : Nat} {ρ ρ' : Env} (h : Jh n K i ρ) (g : ρ.Le ρ') : Jh n K i ρ' := ⟨by rw [g.i]; exact h.n36, by rw [g.i]; exact h.k33, by rw [g.i]; exact h.l30, by rw [g.i]; exact h.i1, h.il, h.no⟩
theorem csI_ok {ρ : Env} {K : List Int} {i : Nat} (i1 : ρ.I 1 = (i : Int)) (il : i ≤ K.length) (h30 : ρ.I 30 = K.length) (h0 : K ≠ []) (h1 : K.length ≤ 70000) : CRel ρ csI :=
  CRel_app.2 ⟨c1 (geqT (varD i1) (litD 0) (by omega)) (c1 (leqT (varD i1) (varD h30) (by omega)) c0), csL_ok h30 h0 h1⟩
section
variable (w0 : World) {n : Int} {K : List Int} (h0 : K ≠ []) (h1 : K.length ≤ 70000)
include h0 h1
theorem loopH : ∀ ρ, (∃ i, Jh n K i ρ) → ∀ todo a w, todo = .inLoop hb0 :: hk0 ∨ todo = .code (.loop hb0) :: hk0 → SRel (.plain w0) ρ (X0.st todo) a w → Goes Try.prog 16 (fun v w' => v = .bool (decide (n ∈ K)) ∧ Framed w0 w') todo a w := by
  refine loop_goesD (n := 4000) (g := gA) (pl := true) (Ts := [X0]) (Q := fun v => v = .bool (decide (n ∈ K))) (β := .plain w0) noCount noExt (noSpB _) follows rfl (fun ρ => ∃ i, Jh n K i ρ) (fun ρ => ((K.length : Int) - ρ.I 1).toNat) (fun ρ hJ hH hcs hG ih => ?_)
  obtain ⟨i, h⟩ := hJ
  by_cases hi : i < K.length
  · have f1 : CRel ρ (fi true) := c1 (lssT (varD h.i1) (varD h.l30) (by omega)) c0
    by_cases he : K.getD i 0 = n
    · refine ⟨_, _, CRel_app.2 ⟨CRel_app.2 ⟨f1, c1 (eqlT (atL_den h.k33 h.i1) (varD h.n36) he) c0⟩, hcs⟩, h_t, one (retS (z := .bool true) (fun ρ' _ => rfl) ?_)⟩
      have : n ∈ K := by
        rw [← he, List.getD_eq_getElem?_getD, List.getElem?_eq_getElem hi]; exact List.getElem_mem hi
      simp only [this, decide_true]
    · refine ⟨_, _, CRel_app.2 ⟨CRel_app.2 ⟨f1, c1 (eqlF (atL_den h.k33 h.i1) (varD h.n36) he) c0⟩, hcs⟩, h_f, one (nextS (T := X0) rfl fun ρ' hle hG' => ?_)⟩
      have hl := h.of_le hle
      have h' : Jh n K (i + 1) ((sH (.bin .add .i64 (.var 1) (.lit 1))).app ρ') := ⟨by rw [app_I rfl]; exact hl.n36, by rw [app_I rfl]; exact hl.k33, by rw [app_I rfl]; exact hl.l30, sbI (t := .bin .add .i64 (.var 1) (.lit 1)) rfl (upD (varD hl.i1) (by omega)), hi, mem_take_succ hi h.no he⟩
      refine ⟨trivial, csI_ok h'.i1 h'.il h'.l30 h0 h1, fun a w r => ih _ ?_ ⟨i + 1, h'⟩ _ a w (.inl rfl) r⟩
      rw [h'.i1, h.i1]; omega
  · have hil := h.il
    refine ⟨_, _, CRel_app.2 ⟨c1 (lssF (varD h.i1) (varD h.l30) (by omega)) c0, hcs⟩, h_e, one (retS (z := .bool false) (fun ρ' _ => rfl) ?_)⟩
    have := h.no
    rw [List.take_of_length_le (by omega)] at this
    simp only [this, decide_false]
end
theorem has16 {w : World} {most h : Int} (n : Int) {v : Value} {K : List Int} (r : RowIn w v K) (hK : K.length ≤ 70000) : Calls Try.prog 16 #[stV most h v, .int .i64 n] w (fun e w' => ∃ x, e = .returned x ∧ x = .bool (decide (n ∈ K)) ∧ Framed w w') := by
  rcases r with ⟨rfl, rfl⟩ | ⟨h0, b, cap, c, el, fr, rfl, hob, hp⟩
  · exact calls_sumsD (Q := fun v => v = .bool (decide (n ∈ ([] : List Int)))) (β := .plain w) (g := gA) (Ts := [X0]) (pl := false) noCount noExt (noSpB _) follows rfl Try.func16 rfl h_nil (denL2 rfl rfl) (start_nil (most := most) (h := h) (n := n)) c0 (one (retS (z := .bool false) (fun ρ' _ => rfl) rfl))
  · refine calls_sumsD (Q := fun v => v = .bool (decide (n ∈ K))) (β := .plain w) (g := gA) (Ts := [X0]) (pl := true) noCount noExt (noSpB _) follows rfl Try.func16 rfl h_in (denL2 (a := stA true) (b := iV 36) ?_ rfl) (start_row (most := most) (h := h) (n := n) (cap := cap) hob hp) (csL_ok rfl h0 hK) (one (nextS (T := X0) rfl fun ρ' hle hG' => ?_))
    · have e : (lvA true).den (envR most h n K b cap) = some (.slice (some ⟨b, 0, none⟩) K.length cap) := den_slice_of rfl rfl rfl rfl
      simp only [stA, iV, AVal.den, AVal.denL, e, IT.den]
      rfl
    · have h' : Jh n K 0 ((sH (.lit 0)).app ρ') := ⟨by rw [app_I rfl, hle.i]; rfl, by rw [app_I rfl, hle.i]; rfl, by rw [app_I rfl, hle.i]; rfl, sbI (t := .lit 0) rfl rfl, Nat.zero_le _, by simp⟩
      exact ⟨trivial, csI_ok h'.i1 h'.il h'.l30 h0 hK, fun a w r => loopH _ h0 hK _ ⟨0, h'⟩ _ a w (.inr rfl) r⟩
end La
end Go.Proofs.Ytlcjgmehccopkaa
