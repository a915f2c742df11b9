/-
  LinearTells (16): the reference's Apply: the ends.
-/
import Derived.Test.YtpgonpjakllnjaaLt15
section
namespace Go.Proofs.Ytpgonpjakllnjaa
open Go.Vm Go.Vm.Md Lm
namespace Lt

def rmV (vq : Value) (m : Mod) : Value := .agg (vq :: (arV (encL (arrL m.M)) 256 ++ arV (encL (arrL m.S)) 256)).toArray
theorem rmA_den {ρ : Env} {q : AVal} {cM cS : IT} {vq : Value} {m : Mod} (hq : q.den ρ = some vq) (hM : cM.den ρ = some (encL (arrL m.M))) (hS : cS.den ρ = some (encL (arrL m.S))) : (rmA q cM cS).den ρ = some (rmV vq m) := by
  have h1 := AVal.denL_append (uniC_den (n := 256) hM) (uniC_den (n := 256) hS)
  simp only [rmA, AVal.den, AVal.denL, hq]
  rw [h1]; rfl
def G55 : GP := fun _ _ _ _ F => F 55 = f55
/-- The queue's slice is the old one, or a new row, or an empty one. -/
def QN (w w' : World) (vq vq' : Value) (Q Q' : List Int) : Prop := (vq' = vq ∧ QV w Q' vq ∧ Q' = Q) ∨ (∃ br n c, vq' = .slice (some ⟨br, 0, none⟩) n c ∧ w.heap.size ≤ br ∧ Q' ≠ [] ∧ QV w' Q' vq' ∧ Q'.length ≠ Q.length) ∨ (Q' = [] ∧ (∃ br, vq' = .slice (some ⟨br, 0, none⟩) 0 0) ∧ vq ≠ .slice none 0 0)
def RA (w : World) (vq : Value) (Q : List Int) (r : (Int × Int) × Mod) : Value → World → Prop := fun x w' => ∃ vq', x = .tuple #[rmV vq' r.2, .agg #[.int .i64 r.1.1, .int .i64 r.1.2]] ∧ Framed w w' ∧ QN w w' vq vq' Q r.2.Q
structure SA (m : Mod) (z : Kd) (vq : Value) (c k a b : Int) (ρ : Env) : Prop where
  i7 : ρ.I 7 = encL (arrL m.M)
  i8 : ρ.I 8 = encL (arrL m.S)
  i13 : ρ.I 13 = c
  i14 : ρ.I 14 = k
  i15 : ρ.I 15 = a
  i16 : ρ.I 16 = b
  q : (qv z).den ρ = some vq
  r : z = .row → ρ.I 5 = encL m.Q ∧ ρ.I 6 = (m.Q.length : Int) ∧ 1 ≤ m.Q.length
  n : z ≠ .row → m.Q = []
section
variable {w : World} {z : Kd} {m : Mod} {vq : Value} {c k a b : Int} {ρ : Env} {Ts : List Tpl}
theorem SA.of_le {ρ' : Env} (s : SA m z vq c k a b ρ) (g : ρ.Le ρ') : SA m z vq c k a b ρ' := ⟨by rw [g.i]; exact s.i7, by rw [g.i]; exact s.i8, by rw [g.i]; exact s.i13, by rw [g.i]; exact s.i14, by rw [g.i]; exact s.i15, by rw [g.i]; exact s.i16, AVal.den_mono g _ s.q, by rw [g.i]; exact s.r, s.n⟩
theorem SA.csq (s : SA m z vq c k a b ρ) (hm : VOk m) : CRel ρ (csQ' z) := by
  have := hm.qq
  cases z with
  | row =>
    obtain ⟨_, h6, h1⟩ := s.r rfl
    exact qD (varD h6) (litD 1) (by simp [intCmp]; omega) (qD (varD h6) (litD 256) (by simp [intCmp]; omega) (qD (varD h6) (litD _) (by simp [intCmp]; omega) c0))
  | _ => exact c0
theorem ans_den {ρ : Env} {x y : Int} (h : ρ.I 24 = x) (g : ρ.I 25 = y) : ansN.den ρ = some (.agg #[.int .i64 x, .int .i64 y]) := by
  simp only [ansN, iV, AVal.den, AVal.denL, IT.den, h, g, Option.map_some]
theorem endK {r : (Int × Int) × Mod} {tM tS tk tv : IT} (s : SA m z vq c k a b ρ) (hq : QV w m.Q vq) (hQ : r.2.Q = m.Q)
    (h : ∀ ρ', ρ.Le ρ' → G55.at ρ' → tM.den ρ' = some (encL (arrL r.2.M)) ∧ tS.den ρ' = some (encL (arrL r.2.S)) ∧ tk.den ρ' = some r.1.1 ∧ tv.den ρ' = some r.1.2) : MGoodO Try.prog ⟨w, [], G55⟩ 37 (RA w vq m.Q r) (Rs z) Ts ρ (.done 1 [] (sK z tM tS tk tv)) :=
  doneR (T := eK z) rfl (fun l hl => by cases hl) fun ρ' hle hG => ⟨hG, c0, fun x w' sr => by
    obtain ⟨y, hy, he⟩ := sr.t 0 _ rfl
    obtain rfl : x = y := Option.some.inj he
    obtain ⟨h1, h2, h3, h4⟩ := h ρ' hle hG
    have s' := s.of_le hle
    have e22 : ((sK z tM tS tk tv).app ρ').I 22 = encL (arrL r.2.M) := by cases z <;> exact sbI (t := tM) rfl h1
    have e23 : ((sK z tM tS tk tv).app ρ').I 23 = encL (arrL r.2.S) := by cases z <;> exact sbI (t := tS) rfl h2
    have e24 : ((sK z tM tS tk tv).app ρ').I 24 = r.1.1 := by cases z <;> exact sbI (t := tk) rfl h3
    have e25 : ((sK z tM tS tk tv).app ρ').I 25 = r.1.2 := by cases z <;> exact sbI (t := tv) rfl h4
    have eq : (qv z).den ((sK z tM tS tk tv).app ρ') = some vq := by cases z <;> exact s'.q
    have hz := tuple2 (rmA_den eq (varD e22) (varD e23)) (ans_den e24 e25)
    exact ⟨vq, Option.some.inj (hy.symm.trans hz), Framed.of sr.h, .inl ⟨rfl, by rw [hQ]; exact hq, hQ⟩⟩⟩
theorem endW {r : (Int × Int) × Mod} {tn tc tk tv : IT} {x1 x2 : Nat} (s : SA m z vq c k a b ρ) (hM : r.2.M = m.M) (hS : r.2.S = m.S) (hQ : r.2.Q ≠ []) (hne : r.2.Q.length ≠ m.Q.length)
    (h : ∀ ρ', ρ.Le ρ' → G55.at ρ' → tn.den ρ' = some (r.2.Q.length : Int) ∧ tc.den ρ' = some (encL r.2.Q) ∧ tk.den ρ' = some r.1.1 ∧ tv.den ρ' = some r.1.2) : MGoodO Try.prog ⟨w, [], G55⟩ 37 (RA w vq m.Q r) (Rs z) Ts ρ (.done 0 [] (sW tn tc tk tv x1 x2)) :=
  doneR (T := eW) rfl (fun l hl => by cases hl) fun ρ' hle hG => ⟨hG, c0, fun x w' sr => by
    obtain ⟨y, hy, he⟩ := sr.t 0 _ rfl
    obtain rfl : x = y := Option.some.inj he
    obtain ⟨h1, h2, h3, h4⟩ := h ρ' hle hG
    have s' := s.of_le hle
    have e22 : ((sW tn tc tk tv x1 x2).app ρ').I 22 = encL (arrL r.2.M) := sbI (t := v7) rfl (by rw [hM]; exact varD s'.i7)
    have e23 : ((sW tn tc tk tv x1 x2).app ρ').I 23 = encL (arrL r.2.S) := sbI (t := v8) rfl (by rw [hS]; exact varD s'.i8)
    have e24 : ((sW tn tc tk tv x1 x2).app ρ').I 24 = r.1.1 := sbI (t := tk) rfl h3
    have e25 : ((sW tn tc tk tv x1 x2).app ρ').I 25 = r.1.2 := sbI (t := tv) rfl h4
    have e27 : ((sW tn tc tk tv x1 x2).app ρ').I 27 = (r.2.Q.length : Int) := sbI (t := tn) rfl h1
    have e26 : ((sW tn tc tk tv x1 x2).app ρ').I 26 = encL r.2.Q := sbI (t := tc) rfl h2
    obtain ⟨b9, o9, hb9, ho9, xs, c0', fr, el, m9, st, rfl, hel, hd, hst, ⟨hstc, hp⟩, hn, hty, ⟨cap, hcap, hsz⟩, hf⟩ := sr.h.blk 9 nwB rfl
    obtain rfl : st = 0 := by have := Option.some.inj hst; exact (Int.ofNat.inj this).symm
    have hel := hel rfl
    subst hel
    have hq : (AVal.slice 9 (.lit 0) (.var 27) (.nv 10)).den ((sW tn tc tk tv x1 x2).app ρ') = some (.slice (some ⟨b9, 0, none⟩) r.2.Q.length cap) := den_slice_of hb9 rfl (varD e27) hcap
    have hz := tuple2 (rmA_den hq (varD e22) (varD e23)) (ans_den e24 e25)
    have hge : w.heap.size ≤ b9 := by
      rcases sr.h.own 9 nwB b9 rfl rfl hb9 with h9 | ⟨_, hl, _⟩
      · exact h9
      · cases hl
    refine ⟨_, Option.some.inj (hy.symm.trans hz), Framed.of sr.h, .inr (.inl ⟨b9, _, cap, rfl, hge, hQ, .inr ⟨b9, cap, _, hQ, rfl, ho9, c0', fr, rfl, ?_, by rw [Nat.sub_zero] at hsz; simpa using hsz, hf rfl⟩, hne⟩)⟩
    rw [List.drop_zero] at hp
    have hd' : (AT.code [.i64] (.var 26)).den ((sW tn tc tk tv x1 x2).app ρ') = some (rowOf [.i64] r.2.Q) := by
      simp only [AT.den, varD e26, Option.map_some, decL_encL]
    have : xs = rowOf [.i64] r.2.Q := Option.some.inj (hd.symm.trans hd')
    rw [this, rowOf1] at hp
    exact hp⟩
theorem spAp_ok : CallOk Try.prog ⟨w, [], G55⟩ spAp := spL_ok fun p hp => by
  simp only [List.mem_cons, List.not_mem_nil, or_false] at hp
  rcases hp with rfl | rfl
  · exact spA_ok right58
  · exact spCount_ok fun _ _ _ _ _ h => h
abbrev ApR (w : World) (vq : Value) (m : Mod) (c k a b : Int) (r : (Int × Int) × Mod) : Prop := Calls Try.prog 37 #[rmV vq m, .agg #[.int .i64 c, .int .i64 k, .int .i64 a, .int .i64 b]] w (fun e w' => ∃ v, e = .returned v ∧ RA w vq m.Q r v w')
theorem args_den {n : Nat} (s : SA m z vq (n : Int) k a b ρ) : AVal.denL ρ [rmA (qv z) (.var 7) (.var 8), opN n] = some [rmV vq m, .agg #[.int .i64 (n : Int), .int .i64 k, .int .i64 a, .int .i64 b]] :=
  denL2 (rmA_den s.q (varD s.i7) (varD s.i8)) (by simp only [opN, iV, AVal.den, AVal.denL, IT.den, s.i14, s.i15, s.i16, Option.map_some]; rfl)
theorem csP_ok {n : Nat} (s : SA m z vq (n : Int) k a b ρ) (hm : VOk m) (hR : rgt (n : Int) k a b = true) {f : Cs} (hf : CRel ρ f) : CRel ρ (csP z n f) := by
  have h := rgt_in hR
  refine CRel_app.2 ⟨CRel_app.2 ⟨CRel_app.2 ⟨c1 (by rw [rgt_den (litD (ρ := ρ) (Int.ofNat n)) (varD s.i14) (varD s.i15) (varD s.i16)]; exact congrArg some hR) c0, ?_⟩, s.csq hm⟩, hf⟩
  exact qD (varD s.i14) (litD 0) (by simp [intCmp]; omega) (qD (varD s.i14) (litD 256) (by simp [intCmp]; omega) c0)
theorem goS {n : Nat} {f : Cs} {ls : List LM} {r : (Int × Int) × Mod} (s : SA m z vq (n : Int) k a b ρ) (hm : VOk m) (hr : HRel ⟨w, [], G55⟩ ρ (ofP (roH (HQ z))) 500 w) (hrun : RCM spAp 37 Try.f37 (Rs z) [] [rmA (qv z) (.var 7) (.var 8), opN n] (ofP (roH (HQ z))) (csP z n f) ls) (hR : rgt (n : Int) k a b = true) (hf : CRel ρ f)
    (h : ∀ l ∈ ls, MGoodO Try.prog ⟨w, [], G55⟩ 37 (RA w vq m.Q r) (Rs z) [] ρ l) : ApR w vq m n k a b r :=
  callM spAp_ok Try.func37 rfl hrun (args_den s) hr (csP_ok s hm hR hf) h
theorem goK {n : Nat} {f : Cs} {r : (Int × Int) × Mod} {tM tS tk tv : IT} (s : SA m z vq (n : Int) k a b ρ) (hm : VOk m) (hq : QV w m.Q vq) (hr : HRel ⟨w, [], G55⟩ ρ (ofP (roH (HQ z))) 500 w) (hrun : PK z n f tM tS tk tv) (hR : rgt (n : Int) k a b = true) (hf : CRel ρ f) (hQ : r.2.Q = m.Q)
    (h : ∀ ρ', SA m z vq (n : Int) k a b ρ' → G55.at ρ' → tM.den ρ' = some (encL (arrL r.2.M)) ∧ tS.den ρ' = some (encL (arrL r.2.S)) ∧ tk.den ρ' = some r.1.1 ∧ tv.den ρ' = some r.1.2) : ApR w vq m n k a b r :=
  goS s hm hr hrun hR hf (one (endK s hq hQ fun ρ' hle hG => h ρ' (s.of_le hle) hG))
-- WHAT THE TERMS STAND FOR
theorem gT_den {t : IT} {x : Int} (hc : t.den ρ = some x) (h14 : ρ.I 14 = k) (h0 : 0 ≤ k) : (gT t).den ρ = some ((decL x).getD k.toNat 0) := by
  have := nthC_den (s := 0) (y := k.toNat) (i := .var 14) hc (by rw [varD h14, Int.toNat_of_nonneg h0])
  rw [Nat.zero_add] at this
  exact this
theorem m7_den (s : SA m z vq c k a b ρ) (hk : 0 ≤ k ∧ k ≤ 255) : m7.den ρ = some (encO (mGet m.M k)) := by
  rw [m7, gT_den (varD s.i7) s.i14 hk.1, decL_encL, arrL_get (by omega), enM, Int.toNat_of_nonneg hk.1]
theorem s8_den (s : SA m z vq c k a b ρ) (hk : 0 ≤ k ∧ k ≤ 255) : s8.den ρ = some (encO (mGet m.S k)) := by
  rw [s8, gT_den (varD s.i8) s.i14 hk.1, decL_encL, arrL_get (by omega), enM, Int.toNat_of_nonneg hk.1]
theorem hz_ok {t : IT} {o : Option Int} (h : t.den ρ = some (encO o)) (hv : ∀ v, o = some v → 0 ≤ v) : CRel ρ (hz t o.isNone) := by
  refine qD h (litD 0) ?_ c0
  cases o with
  | none => rfl
  | some v =>
    have := hv v rfl
    simp only [encO, intCmp, Option.some.injEq, Option.isNone_some, beq_eq_false_iff_ne]; omega
theorem dn_den {t : IT} {v : Int} (h : t.den ρ = some (v + 1)) (h0 : 0 ≤ v ∧ v ≤ 1023) : (dnT t).den ρ = some v := by
  unfold dnT
  rw [minusD h (litD 1) (by omega) (by omega)]
  congr 1; omega
theorem up_den {t : IT} {v : Int} (h : t.den ρ = some v) (h0 : 0 ≤ v ∧ v ≤ 1024) : (upT t).den ρ = some (v + 1) := by
  unfold upT
  rw [plusD h (litD 1) (by omega) (by omega)]
theorem ans_ok {t : IT} {o : Option Int} (h : t.den ρ = some (encO o)) (hv : ∀ v, o = some v → 0 ≤ v ∧ v ≤ 1023) : (ans t o.isNone).1.den ρ = some (had o).1 ∧ (ans t o.isNone).2.den ρ = some (had o).2 := by
  cases o with
  | none => exact ⟨rfl, rfl⟩
  | some v => exact ⟨rfl, dn_den h (hv v rfl)⟩
theorem put7_den (s : SA m z vq c k a b ρ) (hm : MOk m.M) {t : IT} {v : Int} (ht : t.den ρ = some (v + 1)) : (put7 t).den ρ = some (encL (arrL (mPut m.M k v))) := by
  unfold put7
  rw [unD (varD s.i7) (unD (varD s.i14) ht), univ21_arr, arrL_put hm]
theorem put8_den (s : SA m z vq c k a b ρ) (hm : MOk m.S) {t : IT} {v : Int} (ht : t.den ρ = some (v + 1)) : (put8 t).den ρ = some (encL (arrL (mPut m.S k v))) := by
  unfold put8
  rw [unD (varD s.i8) (unD (varD s.i14) ht), univ21_arr, arrL_put hm]
theorem del7_den (s : SA m z vq c k a b ρ) (hm : MOk m.M) : (put7 (.lit 0)).den ρ = some (encL (arrL (mDel m.M k))) := by
  unfold put7
  rw [unD (varD s.i7) (unD (varD s.i14) (litD 0)), univ21_arr, arrL_del hm]
theorem del8_den (s : SA m z vq c k a b ρ) (hm : MOk m.S) : (put8 (.lit 0)).den ρ = some (encL (arrL (mDel m.S k))) := by
  unfold put8
  rw [unD (varD s.i8) (unD (varD s.i14) (litD 0)), univ21_arr, arrL_del hm]
theorem g8_den (s : SA m z vq c k a b ρ) (hm : MOk m.S) (hk : 0 ≤ k ∧ k ≤ 255) {t : IT} {v : Int} (ht : t.den ρ = some (v + 1)) : (gT (put8 t)).den ρ = some (v + 1) := by
  rw [gT_den (put8_den s hm ht) s.i14 hk.1, decL_encL, arrL_get (by omega), enM, Int.toNat_of_nonneg hk.1, get_put _ _ _ _ hm.ev, if_pos rfl]; rfl
theorem cntX_R (M : List Int) : ∀ n, n ≤ 256 → cntX (encL (arrL M)) n = cntR M n
  | 0, _ => rfl
  | n + 1, h => by
    unfold cntX cntR
    rw [cntX_R M n (by omega), decL_encL, arrL_get (by omega)]
end
end Lt
end Go.Proofs.Ytpgonpjakllnjaa
end

/-
  LinearTells (17): the reference's Apply answers, and becomes, what a model does.
-/
section
namespace Go.Proofs.Ytpgonpjakllnjaa
open Go.Vm Go.Vm.Md Lm
namespace Lt

-- THE FLOOR'S LOOP
def rmB (z : Kd) : HB := ⟨.cells (qv z :: (uniC (.var 7) 256 ++ uniC (.var 8) 256)) 49 none, true⟩
def zrB : HB := ⟨.cells (.sliceNil :: List.replicate 512 (.int .i64 (.lit 0))) 49 none, true⟩
def z2B : HB := ⟨.cells [.int .i64 (.lit 0), .int .i64 (.lit 0)] 27 none, true⟩
def T9 (z : Kd) : Tpl := ⟨[(2, .ptr 30 (.lit 0)), (4, .ptr 31 (.lit 0)), (5, .ptr 32 (.lit 0)), (9, iV 9)], 232, roH (HQ z) ++ [(30, rmB z), (31, zrB), (32, z2B)], 500, [q9 .geq at9 (.lit (-1)) true, q9 .lss at9 (.lit 256) true] ++ csQ' z, 5⟩
def s9 (z : Kd) (t : IT) (x y u : Nat) : Sub := match z with
  | .nil => ⟨[(9, t), (7, v7), (8, v8)], [], [], [], [(30, x), (31, y), (32, u)]⟩
  | .zero => ⟨[(9, t), (11, .var 11), (7, v7), (8, v8)], [], [], [], [(30, x), (31, y), (32, u), (2, 2)]⟩
  | .row => ⟨[(9, t), (6, .var 6), (7, v7), (8, v8)], [], [], [], [(30, x), (31, y), (32, u), (2, 2), (4, 4)]⟩
def dn9 : IT := .bin .sub .i64 at9 (.lit 1)
def flT : IT := .bin .sub .i64 (.bin .add .i64 (.bin .mul .i64 (.lit 1024) at9) (c9 v7)) (.lit 1)
theorem f_in (z : Kd) : RCM spAp 37 Try.f37 (Rs z) [T9 z] [rmA (qv z) (.var 7) (.var 8), opN 9] (ofP (roH (HQ z))) (csP z 9 []) [.next 0 (.code (.loop (lb Try.f37 0)) :: lq Try.f37 0) [] (s9 z (.var 14) 500 502 503)] := by unfold RCM; cases z <;> kernel_rfl
theorem f_n (z : Kd) : RHM spAp 37 Try.f37 0 (Rs z) [T9 z] (T9 z) [q9 .geq at9 (.lit 0) true, q9 .gtr (c9 v7) (.lit 0) false] [.next 0 (.inLoop (lb Try.f37 0) :: lq Try.f37 0) [] (s9 z dn9 30 31 32)] := by unfold RHM; cases z <;> kernel_rfl
theorem f_y (z : Kd) : RHM spAp 37 Try.f37 0 (Rs z) [T9 z] (T9 z) [q9 .geq at9 (.lit 0) true, q9 .gtr (c9 v7) (.lit 0) true] [.done 1 [] (sK z v7 v8 (.lit 0) flT)] := by unfold RHM; cases z <;> kernel_rfl
theorem f_e (z : Kd) : RHM spAp 37 Try.f37 0 (Rs z) [T9 z] (T9 z) [q9 .geq at9 (.lit 0) false] [.done 1 [] (sK z v7 v8 (.lit 1) (.lit 0))] := by unfold RHM; cases z <;> kernel_rfl
section
variable {w : World} {z : Kd} {m : Mod} {vq : Value} {c k a b : Int} {ρ : Env}
/-- Where it stands: so many keys are left; those above have nothing. -/
structure J9 (m : Mod) (z : Kd) (vq : Value) (k a b : Int) (i : Nat) (ρ : Env) : Prop where
  s : SA m z vq 9 k a b ρ
  i9 : ρ.I 9 = (i : Int) - 1
  le : i ≤ 256
  fl : flM m.M i = flM m.M (k.toNat + 1)
theorem J9.of_le {i : Nat} {ρ' : Env} (h : J9 m z vq k a b i ρ) (g : ρ.Le ρ') : J9 m z vq k a b i ρ' := ⟨h.s.of_le g, by rw [g.i]; exact h.i9, h.le, h.fl⟩
theorem J9.cs {i : Nat} (h : J9 m z vq k a b i ρ) (hm : VOk m) : CRel ρ (T9 z).cs := by
  have := h.le
  exact CRel_app.2 ⟨qD (show at9.den ρ = _ from varD h.i9) (litD (-1)) (by simp [intCmp]; omega) (qD (show at9.den ρ = _ from varD h.i9) (litD 256) (by simp [intCmp]; omega) c0), h.s.csq hm⟩
theorem SA.sub9 {t : IT} {x y u : Nat} (s : SA m z vq c k a b ρ) : SA m z vq c k a b ((s9 z t x y u).app ρ) := by
  refine ⟨?_, ?_, ?_, ?_, ?_, ?_, ?_, fun h => ?_, s.n⟩
  · cases z <;> exact s.i7
  · cases z <;> exact s.i8
  · cases z <;> exact s.i13
  · cases z <;> exact s.i14
  · cases z <;> exact s.i15
  · cases z <;> exact s.i16
  · cases z <;> exact s.q
  · subst h; exact s.r rfl
theorem floor37 (s : SA m z vq 9 k a b ρ) (hm : VOk m) (hq : QV w m.Q vq) (hr : HRel ⟨w, [], G55⟩ ρ (ofP (roH (HQ z))) 500 w) (hR : rgt 9 k a b = true) : ApR w vq m 9 k a b (apply m 9 k a b) := by
  have hk := rgt_in hR
  have loop := scanM (β := ⟨w, [], G55⟩) (sp := spAp) (f := 37) (fn := Try.f37) (j := 0) (Rs := Rs z) (Ts := [T9 z]) (R := RA w vq m.Q (apply m 9 k a b)) (T := fun _ : Unit => T9 z) spAp_ok (fun _ ρ => ∃ i, J9 m z vq k a b i ρ) (fun ρ => (ρ.I 9 + 1).toNat) fun _ ρ ⟨i, j⟩ hG hcs ih => by
    have hi := j.le
    have e9 : at9.den ρ = some ((i : Int) - 1) := varD j.i9
    cases i with
    | zero =>
      refine ⟨_, _, qD e9 (litD 0) (by simp [intCmp]) c0, f_e z, one (endK j.s hq rfl fun ρ' hle hG' => ?_)⟩
      have s' := j.s.of_le hle
      have : flM m.M (k.toNat + 1) = (1, 0) := by rw [← j.fl]; rfl
      refine ⟨varD s'.i7, varD s'.i8, ?_, ?_⟩
      · show some (1 : Int) = some (flM m.M (k.toNat + 1)).1; rw [this]
      · show some (0 : Int) = some (flM m.M (k.toNat + 1)).2; rw [this]
    | succ i =>
      have e9 : ρ.I 9 = (i : Int) := by rw [j.i9]; omega
      have ec : (c9 v7).den ρ = some (encO (mGet m.M (i : Int))) := by
        show (c9 (.var 7)).den _ = _
        rw [c9_den (varD j.s.i7) e9, decL_encL, arrL_get (by omega), enM]
      have ge : CRel ρ [q9 .geq at9 (.lit 0) true] := qD (show at9.den ρ = _ from varD e9) (litD 0) (by simp [intCmp]) c0
      cases hg : mGet m.M (i : Int) with
      | none =>
        rw [hg] at ec
        refine ⟨_, _, qD (show at9.den ρ = _ from varD e9) (litD 0) (by simp [intCmp]) (qD ec (litD 0) rfl c0), f_n z, one (nextR rfl (fun l hl => by cases hl) fun ρ' hle hG' => ?_)⟩
        have j' := j.of_le hle
        have e9' : ρ'.I 9 = (i : Int) := by rw [hle.i]; exact e9
        have jn : J9 m z vq k a b i ((s9 z dn9 30 31 32).app ρ') := ⟨j'.s.sub9, by
          have : dn9.den ρ' = some ((i : Int) - 1) := minusD (show at9.den ρ' = _ from varD e9') (litD 1) (by omega) (by omega)
          cases z <;> exact sbI (t := dn9) rfl this, by omega, by rw [← j.fl]; simp only [flM, hg]⟩
        exact ⟨hG', jn.cs hm, fun a w' r => ih () _ (by rw [jn.i9, e9]; omega) ⟨_, jn⟩ _ a w' (.inl rfl) r⟩
      | some v =>
        rw [hg] at ec
        have hv := hm.mm.vl _ _ hg
        refine ⟨_, _, qD (show at9.den ρ = _ from varD e9) (litD 0) (by simp [intCmp]) (qD ec (litD 0) (by simp [intCmp, encO]; omega) c0), f_y z, one (endK j.s hq rfl fun ρ' hle hG' => ?_)⟩
        have s' := j.s.of_le hle
        have e9' : ρ'.I 9 = (i : Int) := by rw [hle.i]; exact e9
        have ec' : (c9 v7).den ρ' = some (v + 1) := by
          show (c9 (.var 7)).den _ = _
          rw [c9_den (varD s'.i7) e9', decL_encL, arrL_get (by omega), enM, hg]; rfl
        have hfl : flM m.M (k.toNat + 1) = (0, (i : Int) * 1024 + v) := by
          rw [← j.fl]; simp only [flM, hg]; rw [wrapI (x := (i : Int) * 1024) (by omega) (by omega), wrapI (by omega) (by omega)]
        refine ⟨varD s'.i7, varD s'.i8, ?_, ?_⟩
        · show some (0 : Int) = some (flM m.M (k.toNat + 1)).1; rw [hfl]
        · show flT.den ρ' = some (flM m.M (k.toNat + 1)).2
          rw [hfl]
          have e1 : (IT.bin .mul .i64 (.lit 1024) at9).den ρ' = some ((i : Int) * 1024) := by
            rw [binD (litD 1024) (show at9.den ρ' = _ from varD e9')]
            show some (IntKind.i64.wrap (1024 * (i : Int))) = _
            rw [wrapI (by omega) (by omega)]; congr 1; omega
          unfold flT
          rw [minusD (plusD e1 ec' (by omega) (by omega)) (litD 1) (by omega) (by omega)]
          congr 1; omega
  refine callM spAp_ok Try.func37 rfl (f_in z) (args_den (n := 9) s) hr (csP_ok (n := 9) s hm hR c0) (one (nextR rfl (fun l hl => by cases hl) fun ρ' hle hG' => ?_))
  have s' := s.of_le hle
  have jn : J9 m z vq k a b (k.toNat + 1) ((s9 z (.var 14) 500 502 503).app ρ') := ⟨s'.sub9, by
    have e14 : (IT.var 14).den ρ' = some k := varD s'.i14
    have : ((s9 z (.var 14) 500 502 503).app ρ').I 9 = k := by cases z <;> exact sbI (t := .var 14) rfl e14
    rw [this]; omega, by omega, rfl⟩
  exact ⟨hG', jn.cs hm, fun a w' r => loop () _ ⟨_, jn⟩ _ a w' (.inr rfl) r⟩
end
end Lt
end Go.Proofs.Ytpgonpjakllnjaa
end

/-
  LinearTells (18): the reference's Apply is what a model does.
-/
section
namespace Go.Proofs.Ytpgonpjakllnjaa
open Go.Vm Go.Vm.Md Lm
namespace Lt

section
variable {w : World} {z : Kd} {m : Mod} {vq : Value} {c k a b : Int} {ρ : Env}
/-- The names for what such a call is given. -/
def envQ (m : Mod) (c k a b : Int) (o : Nat) (N : Nat → Option Nat) : Env :=
  ⟨fun i => if i = 5 then encL m.Q else if i = 6 then (m.Q.length : Int) else if i = 7 then encL (arrL m.M) else if i = 8 then encL (arrL m.S) else if i = 11 then (o : Int) else if i = 13 then c else if i = 14 then k else if i = 15 then a else if i = 16 then b else 0, fun _ => false, fun _ => default, fun _ => undef, N, fun i => if i = 55 then f55 else fun _ _ => 0⟩
def nm2 (b1 cap : Nat) : Nat → Option Nat := fun i => if i = 2 then some b1 else if i = 4 then some cap else none
theorem nm2_hi {b1 cap i : Nat} (h : 500 ≤ i) : nm2 b1 cap i = none := by
  unfold nm2
  rw [if_neg (by omega), if_neg (by omega)]
/-- A row as a block. -/
theorem relQ {Q : List Int} {cap : Nat} {o : Obj} (h : RowM Q cap o) (e5 : ρ.I 5 = encL Q) (e6 : ρ.I 6 = (Q.length : Int)) (e4 : ρ.N 4 = some cap) : qBk.rel ρ false o := by
  obtain ⟨cc, fr, rfl, hp, hs, hf⟩ := h
  refine ⟨rowOf [.i64] Q, cc, fr, 3, Q.length, 0, rfl, (fun e => by cases e), ?_, rfl, ⟨Nat.zero_le _, ?_⟩, varD e6, rowOf_typed (by simp), ⟨cap, nvD e4, by simp [hs]⟩, (fun e => by cases e)⟩
  · simp only [AT.den, varD e5, Option.map_some, decL_encL]
  · rw [List.drop_zero, rowOf1]; exact hp
theorem start37 (m : Mod) (c k a b : Int) (hq : QV w m.Q vq) : ∃ z ρ, SA m z vq c k a b ρ ∧ HRel ⟨w, [], G55⟩ ρ (ofP (roH (HQ z))) 500 w := by
  rcases hq with ⟨p, rfl, hp, hQ⟩ | ⟨b1, cap, o, hne, rfl, ho, hr⟩
  · cases p with
    | none => exact ⟨.nil, envQ m c k a b 0 fun _ => none, ⟨rfl, rfl, rfl, rfl, rfl, rfl, rfl, (fun h => by cases h), fun _ => hQ⟩, HRel.ro [] (fun p hp => by cases hp) (fun _ _ => rfl) rfl⟩
    | some p =>
      obtain ⟨pb, po, ps⟩ := p
      obtain rfl : ps = none := hp _ rfl
      exact ⟨.zero, envQ m c k a b po (nm2 pb 0), ⟨rfl, rfl, rfl, rfl, rfl, rfl, den_slice_of (n := 0) (c := 0) rfl (varD rfl) rfl rfl, (fun h => by cases h), fun _ => hQ⟩, HRel.ro [] (fun p hp => by cases hp) (fun i hi => nm2_hi hi) rfl⟩
  · refine ⟨.row, envQ m c k a b 0 (nm2 b1 cap), ⟨rfl, rfl, rfl, rfl, rfl, rfl, den_slice_of rfl rfl (varD rfl) (nvD rfl), fun _ => ⟨rfl, rfl, List.length_pos_iff.2 hne⟩, fun h => absurd rfl h⟩, HRel.ro [(2, qBk)] (fun p hp => ?_) (fun i hi => nm2_hi hi) rfl⟩
    rw [List.mem_singleton.1 hp]
    exact ⟨b1, o, rfl, ho, relQ hr rfl rfl rfl⟩
-- THE CODES
theorem nQ_den (s : SA m z vq c k a b ρ) : (nQ z).den ρ = some (m.Q.length : Int) := by
  cases z with
  | row => exact varD (s.r rfl).2.1
  | nil => show some (0 : Int) = _; rw [s.n (fun h => by cases h)]; rfl
  | zero => show some (0 : Int) = _; rw [s.n (fun h => by cases h)]; rfl
theorem code4 (s : SA m z vq ((4 : Nat) : Int) k a b ρ) (hm : VOk m) (hq : QV w m.Q vq) (hr : HRel ⟨w, [], G55⟩ ρ (ofP (roH (HQ z))) 500 w) (hR : rgt ((4 : Nat) : Int) k a b = true) : ApR w vq m (4 : Nat) k a b (apply m 4 k a b) := by
  have hk := rgt_in hR
  have hb : 0 ≤ k ∧ k ≤ 255 := by omega
  exact goK s hm hq hr (k4 z (mGet m.M k).isNone) hR (hz_ok (m7_den s hb) fun v hv => (hm.mm.vl _ _ hv).1) rfl fun ρ' s' hG => ⟨varD s'.i7, varD s'.i8, ans_ok (m7_den s' hb) fun v hv => hm.mm.vl _ _ hv⟩
theorem code13 (s : SA m z vq ((13 : Nat) : Int) k a b ρ) (hm : VOk m) (hq : QV w m.Q vq) (hr : HRel ⟨w, [], G55⟩ ρ (ofP (roH (HQ z))) 500 w) (hR : rgt ((13 : Nat) : Int) k a b = true) : ApR w vq m (13 : Nat) k a b (apply m 13 k a b) := by
  have hk := rgt_in hR
  have hb : 0 ≤ k ∧ k ≤ 255 := by omega
  exact goK s hm hq hr (k13 z (mGet m.S k).isNone) hR (hz_ok (s8_den s hb) fun v hv => (hm.ss.vl _ _ hv).1) rfl fun ρ' s' hG => ⟨varD s'.i7, varD s'.i8, ans_ok (s8_den s' hb) fun v hv => hm.ss.vl _ _ hv⟩
theorem code5 (s : SA m z vq ((5 : Nat) : Int) k a b ρ) (hm : VOk m) (hq : QV w m.Q vq) (hr : HRel ⟨w, [], G55⟩ ρ (ofP (roH (HQ z))) 500 w) (hR : rgt ((5 : Nat) : Int) k a b = true) : ApR w vq m (5 : Nat) k a b (apply m 5 k a b) := by
  have hk := rgt_in hR
  have hb : 0 ≤ k ∧ k ≤ 255 := by omega
  exact goK s hm hq hr (k5 z (mGet m.M k).isNone) hR (hz_ok (m7_den s hb) fun v hv => (hm.mm.vl _ _ hv).1) rfl fun ρ' s' hG => ⟨put7_den s' hm.mm (up_den (varD s'.i15) (by omega)), varD s'.i8, ans_ok (m7_den s' hb) fun v hv => hm.mm.vl _ _ hv⟩
theorem code6 (s : SA m z vq ((6 : Nat) : Int) k a b ρ) (hm : VOk m) (hq : QV w m.Q vq) (hr : HRel ⟨w, [], G55⟩ ρ (ofP (roH (HQ z))) 500 w) (hR : rgt ((6 : Nat) : Int) k a b = true) : ApR w vq m (6 : Nat) k a b (apply m 6 k a b) := by
  have hk := rgt_in hR
  have hb : 0 ≤ k ∧ k ≤ 255 := by omega
  exact goK s hm hq hr (k6 z (mGet m.M k).isNone) hR (hz_ok (m7_den s hb) fun v hv => (hm.mm.vl _ _ hv).1) rfl fun ρ' s' hG => ⟨del7_den s' hm.mm, varD s'.i8, ans_ok (m7_den s' hb) fun v hv => hm.mm.vl _ _ hv⟩
theorem code10 (s : SA m z vq ((10 : Nat) : Int) k a b ρ) (hm : VOk m) (hq : QV w m.Q vq) (hr : HRel ⟨w, [], G55⟩ ρ (ofP (roH (HQ z))) 500 w) (hR : rgt ((10 : Nat) : Int) k a b = true) : ApR w vq m (10 : Nat) k a b (apply m 10 k a b) := by
  have hk := rgt_in hR
  have hb : 0 ≤ k ∧ k ≤ 255 := by omega
  exact goK s hm hq hr (k10 z (mGet m.S k).isNone) hR (hz_ok (s8_den s hb) fun v hv => (hm.ss.vl _ _ hv).1) rfl fun ρ' s' hG => ⟨varD s'.i7, put8_den s' hm.ss (up_den (varD s'.i15) (by omega)), ans_ok (s8_den s' hb) fun v hv => hm.ss.vl _ _ hv⟩
theorem code14 (s : SA m z vq ((14 : Nat) : Int) k a b ρ) (hm : VOk m) (hq : QV w m.Q vq) (hr : HRel ⟨w, [], G55⟩ ρ (ofP (roH (HQ z))) 500 w) (hR : rgt ((14 : Nat) : Int) k a b = true) : ApR w vq m (14 : Nat) k a b (apply m 14 k a b) := by
  have hk := rgt_in hR
  have hb : 0 ≤ k ∧ k ≤ 255 := by omega
  exact goK s hm hq hr (k14 z (mGet m.S k).isNone) hR (hz_ok (s8_den s hb) fun v hv => (hm.ss.vl _ _ hv).1) rfl fun ρ' s' hG => ⟨varD s'.i7, del8_den s' hm.ss, ans_ok (s8_den s' hb) fun v hv => hm.ss.vl _ _ hv⟩
theorem code7 (s : SA m z vq ((7 : Nat) : Int) k a b ρ) (hm : VOk m) (hq : QV w m.Q vq) (hr : HRel ⟨w, [], G55⟩ ρ (ofP (roH (HQ z))) 500 w) (hR : rgt ((7 : Nat) : Int) k a b = true) : ApR w vq m (7 : Nat) k a b (apply m 7 k a b) := by
  have hk := rgt_in hR
  have hb : 0 ≤ k ∧ k ≤ 255 := by omega
  have e7 : ∀ {ρ}, SA m z vq ((7 : Nat) : Int) k a b ρ → m7.den ρ = some (encO (mGet m.M k)) := fun s => m7_den s hb
  cases hg : mGet m.M k with
  | none =>
    rw [show apply m 7 k a b = ((1, 0), m) by simp only [apply, hg]]
    have e := e7 s
    rw [hg] at e
    exact goK s hm hq hr (k7n z) hR (qD e (litD 0) rfl (qD e (litD 0) rfl c0)) rfl fun ρ' s' hG => ⟨varD s'.i7, varD s'.i8, rfl, rfl⟩
  | some v =>
    have hv := hm.mm.vl _ _ hg
    have e := e7 s
    rw [hg] at e
    have pos : CRel ρ [q9 .gtr m7 (.lit 0) true] := qD e (litD 0) (by simp [intCmp, encO]; omega) c0
    have eu := up_den (t := .var 15) (varD s.i15) (v := a) (by omega)
    by_cases hva : v = a
    · rw [show apply m 7 k a b = ((0, v), { m with M := mPut m.M k b }) by simp only [apply, hg, if_pos hva]]
      exact goK s hm hq hr (k7y z) hR (CRel_app.2 ⟨CRel_app.2 ⟨pos, qD e eu (by simp [intCmp, encO, hva]) c0⟩, qD e (litD 0) (by simp [intCmp, encO]; omega) c0⟩) rfl fun ρ' s' hG => ⟨put7_den s' hm.mm (up_den (varD s'.i16) (by omega)), varD s'.i8, rfl, dn_den (by rw [e7 s', hg]; rfl) hv⟩
    · rw [show apply m 7 k a b = ((4, v), m) by simp only [apply, hg, if_neg hva]]
      exact goK s hm hq hr (k7u z) hR (CRel_app.2 ⟨pos, qD e eu (by simp [intCmp, encO]; omega) c0⟩) rfl fun ρ' s' hG => ⟨varD s'.i7, varD s'.i8, rfl, dn_den (by rw [e7 s', hg]; rfl) hv⟩
theorem code11 (s : SA m z vq ((11 : Nat) : Int) k a b ρ) (hm : VOk m) (hq : QV w m.Q vq) (hr : HRel ⟨w, [], G55⟩ ρ (ofP (roH (HQ z))) 500 w) (hR : rgt ((11 : Nat) : Int) k a b = true) : ApR w vq m (11 : Nat) k a b (apply m 11 k a b) := by
  have hk := rgt_in hR
  have hb : 0 ≤ k ∧ k ≤ 255 := by omega
  have e8 : ∀ {ρ}, SA m z vq ((11 : Nat) : Int) k a b ρ → s8.den ρ = some (encO (mGet m.S k)) := fun s => s8_den s hb
  cases hg : mGet m.S k with
  | none =>
    rw [show apply m 11 k a b = ((1, 0), m) by simp only [apply, hg]]
    have e := e8 s
    rw [hg] at e
    exact goK s hm hq hr (k11n z) hR (qD e (litD 1) rfl (qD e (litD 0) rfl (qD e (litD 0) rfl c0))) rfl fun ρ' s' hG => ⟨varD s'.i7, varD s'.i8, rfl, rfl⟩
  | some v =>
    have hv := hm.ss.vl _ _ hg
    have e := e8 s
    rw [hg] at e
    by_cases hva : v = 0
    · rw [show apply m 11 k a b = ((3, 0), m) by simp only [apply, hg, stepM, if_pos hva]]
      exact goK s hm hq hr (k11e z) hR (qD e (litD 1) (by simp [intCmp, encO, hva]) c0) rfl fun ρ' s' hG => ⟨varD s'.i7, varD s'.i8, rfl, rfl⟩
    · have ew : IntKind.i64.wrap (v + -1) = v - 1 := by rw [wrapI (by omega) (by omega)]; omega
      rw [show apply m 11 k a b = ((0, v - 1), { m with S := mPut m.S k (v - 1) }) by simp only [apply, hg, stepM, if_neg hva, ew]]
      have es : ∀ {ρ}, SA m z vq ((11 : Nat) : Int) k a b ρ → (dnT s8).den ρ = some (v - 1 + 1) := fun s => by rw [dn_den (by rw [e8 s, hg]; rfl) hv]; congr 1; omega
      exact goK s hm hq hr (k11y z) hR (CRel_app.2 ⟨qD e (litD 1) (by simp [intCmp, encO]; omega) (qD e (litD 0) (by simp [intCmp, encO]; omega) c0), qD (g8_den s hm.ss hb (es s)) (litD 0) (by simp [intCmp]; omega) c0⟩) rfl fun ρ' s' hG => ⟨varD s'.i7, put8_den s' hm.ss (es s'), rfl, dn_den (g8_den s' hm.ss hb (es s')) (by constructor <;> simp only <;> omega)⟩
theorem code12 (s : SA m z vq ((12 : Nat) : Int) k a b ρ) (hm : VOk m) (hq : QV w m.Q vq) (hr : HRel ⟨w, [], G55⟩ ρ (ofP (roH (HQ z))) 500 w) (hR : rgt ((12 : Nat) : Int) k a b = true) : ApR w vq m (12 : Nat) k a b (apply m 12 k a b) := by
  have hk := rgt_in hR
  have hb : 0 ≤ k ∧ k ≤ 255 := by omega
  have e8 : ∀ {ρ}, SA m z vq ((12 : Nat) : Int) k a b ρ → s8.den ρ = some (encO (mGet m.S k)) := fun s => s8_den s hb
  cases hg : mGet m.S k with
  | none =>
    rw [show apply m 12 k a b = ((1, 0), m) by simp only [apply, hg]]
    have e := e8 s
    rw [hg] at e
    exact goK s hm hq hr (k12n z) hR (qD e (litD 1024) rfl (qD e (litD 0) rfl (qD e (litD 0) rfl c0))) rfl fun ρ' s' hG => ⟨varD s'.i7, varD s'.i8, rfl, rfl⟩
  | some v =>
    have hv := hm.ss.vl _ _ hg
    have e := e8 s
    rw [hg] at e
    by_cases hva : v = 1023
    · rw [show apply m 12 k a b = ((2, 0), m) by simp only [apply, hg, stepM, if_pos hva]]
      exact goK s hm hq hr (k12e z) hR (qD e (litD 1024) (by simp [intCmp, encO, hva]) c0) rfl fun ρ' s' hG => ⟨varD s'.i7, varD s'.i8, rfl, rfl⟩
    · have ew : IntKind.i64.wrap (v + 1) = v + 1 := wrapI (by omega) (by omega)
      rw [show apply m 12 k a b = ((0, v + 1), { m with S := mPut m.S k (v + 1) }) by simp only [apply, hg, stepM, if_neg hva, ew]]
      have es : ∀ {ρ}, SA m z vq ((12 : Nat) : Int) k a b ρ → (upT s8).den ρ = some (v + 1 + 1) := fun s => up_den (by rw [e8 s, hg]; rfl) (by omega)
      exact goK s hm hq hr (k12y z) hR (CRel_app.2 ⟨qD e (litD 1024) (by simp [intCmp, encO]; omega) (qD e (litD 0) (by simp [intCmp, encO]; omega) c0), qD (g8_den s hm.ss hb (es s)) (litD 0) (by simp [intCmp]; omega) c0⟩) rfl fun ρ' s' hG => ⟨varD s'.i7, put8_den s' hm.ss (es s'), rfl, dn_den (g8_den s' hm.ss hb (es s')) (by constructor <;> simp only <;> omega)⟩
theorem code1 (s : SA m z vq ((1 : Nat) : Int) k a b ρ) (hm : VOk m) (hq : QV w m.Q vq) (hr : HRel ⟨w, [], G55⟩ ρ (ofP (roH (HQ z))) 500 w) (hR : rgt ((1 : Nat) : Int) k a b = true) : ApR w vq m (1 : Nat) k a b (apply m 1 k a b) := by
  have hql := hm.qq
  by_cases hz : z = .row
  · subst hz
    obtain ⟨h5, h6, h1⟩ := s.r rfl
    by_cases hf : 256 ≤ m.Q.length
    · rw [show apply m 1 k a b = ((2, 0), m) by simp only [apply, if_pos hf]]
      exact goK s hm hq hr k1f hR (qD (varD h6) (litD 255) (by simp [intCmp]; omega) c0) rfl fun ρ' s' hG => ⟨varD s'.i7, varD s'.i8, rfl, rfl⟩
    · rw [show apply m 1 k a b = ((0, (m.Q.length : Int) + 1), { m with Q := m.Q ++ [a] }) by simp only [apply, if_neg hf]]
      have g : ∀ l ∈ [LM.done 0 [] s1r, .done 0 [] s1r, .done 0 [] s1r], MGoodO Try.prog ⟨w, [], G55⟩ 37 (RA w vq m.Q ((0, (m.Q.length : Int) + 1), { m with Q := m.Q ++ [a] })) (Rs .row) [] ρ l := fun l hl => by
        have e : l = .done 0 [] s1r := by simpa using hl
        rw [e]
        exact endW s rfl rfl (by simp) (by simp) fun ρ' hle hG => by
          have s' := s.of_le hle
          obtain ⟨h5, h6, _⟩ := s'.r rfl
          exact ⟨by rw [up_den (varD h6) (by omega)]; simp, snoc_den (varD h5) (varD s'.i15), rfl, up_den (varD h6) (by omega)⟩
      exact goS s hm hr k1r hR (qD (varD h6) (litD 255) (by simp [intCmp]; omega) c0) g
  · have hQ := s.n hz
    have : apply m 1 k a b = ((0, 1), { m with Q := [a] }) := by simp [apply, hQ]
    rw [this]
    exact goS s hm hr (k1n z hz) hR c0 (one (endW s rfl rfl (by simp) (by simp [hQ]) fun ρ' hle hG => ⟨rfl, snoc_den nil_den (varD (s.of_le hle).i15), rfl, rfl⟩))
theorem code2 (s : SA m z vq ((2 : Nat) : Int) k a b ρ) (hm : VOk m) (hq : QV w m.Q vq) (hr : HRel ⟨w, [], G55⟩ ρ (ofP (roH (HQ z))) 500 w) (hR : rgt ((2 : Nat) : Int) k a b = true) : ApR w vq m (2 : Nat) k a b (apply m 2 k a b) := by
  have hql := hm.qq
  have hk := rgt_in hR
  by_cases hz : z = .row
  · subst hz
    obtain ⟨h5, h6, h1⟩ := s.r rfl
    have hne : m.Q ≠ [] := List.length_pos_iff.1 h1
    rw [show apply m 2 k a b = ((0, m.Q.getD 0 0), { m with Q := m.Q.drop 1 }) by simp only [apply, if_neg hne]]
    by_cases h2 : 2 ≤ m.Q.length
    · have e14 : ∀ {ρ}, SA m .row vq ((2 : Nat) : Int) k a b ρ → (IT.un 14 (.var 6) (.lit 1)).den ρ = some ((m.Q.length : Int) - 1) := fun s => by
        rw [unD (varD (s.r rfl).2.1) (litD 1)]
        show some (if (1 : Int) ≤ m.Q.length then (m.Q.length : Int) - 1 else 0) = _
        rw [if_pos (by omega)]
      refine goS s hm hr k2r hR (qD (litD 1) (varD h6) (by simp [intCmp]; omega) (qD (litD 0) (varD h6) (by simp [intCmp]; omega) (qD (varD h6) (litD 0) (by simp [intCmp]; omega) (qD (litD 1) (litD 0) rfl (qD (litD 0) (litD 0) rfl (qD (e14 s) (litD 1) (by simp [intCmp]; omega) (qD (e14 s) (litD _) (by simp [intCmp]; omega) c0))))))) (one (endW s rfl rfl (List.length_pos_iff.1 (by simp; omega)) (by simp; omega) fun ρ' hle hG => ?_))
      have s' := s.of_le hle
      obtain ⟨h5, h6, _⟩ := s'.r rfl
      refine ⟨by rw [e14 s']; simp; omega, ?_, rfl, ?_⟩
      · rw [unD (varD h5) (litD 1)]
        show some (encL ((decL (encL m.Q)).drop 1)) = _
        rw [decL_encL]
      · have := nthC_den (s := 0) (y := 0) (i := .lit 0) (varD h5) rfl
        rw [decL_encL] at this
        exact this
    · rcases hq with ⟨p, _, _, hQ⟩ | ⟨b1, cap, o, _, rfl, ho, ⟨cc, fr, rfl, hp, hs, hf⟩⟩
      · exact absurd hQ hne
      obtain ⟨q0, hq0⟩ : ∃ q0, m.Q = [q0] := List.length_eq_one_iff.1 (by omega)
      have hl1 : m.Q.length = 1 := by rw [hq0]; rfl
      have hg0 : m.Q.getD 0 0 = q0 := by rw [hq0]; rfl
      obtain ⟨ρ1, hρ1⟩ : ∃ ρ1 : Env, ρ1 = { envQ m 2 k a b 0 (nm2 b1 cap) with I := fun i => if i = 5 then q0 else (envQ m 2 k a b 0 (nm2 b1 cap)).I i } := ⟨_, rfl⟩
      have f7 : ρ1.I 7 = encL (arrL m.M) := by rw [hρ1]; rfl
      have f8 : ρ1.I 8 = encL (arrL m.S) := by rw [hρ1]; rfl
      have f14 : ρ1.I 14 = k := by rw [hρ1]; rfl
      have f15 : ρ1.I 15 = a := by rw [hρ1]; rfl
      have f16 : ρ1.I 16 = b := by rw [hρ1]; rfl
      have f5 : ρ1.I 5 = q0 := by rw [hρ1]; rfl
      have hr1 : HRel ⟨w, [], G55⟩ ρ1 (ofP (roH [bOne])) 500 w := by
        refine HRel.ro [bOne] (fun p hp' => ?_) (fun i hi => by rw [hρ1]; exact nm2_hi hi) (by rw [hρ1]; rfl)
        rw [List.mem_singleton.1 hp']
        rw [hq0] at hp
        have hc1 : 1 ≤ cc.size := by have := hp.length_le; simpa using this
        exact ⟨b1, _, by rw [hρ1]; rfl, ho, [.int .i64 q0], cc, fr, rfl, by simp only [iV, AVal.denL, AVal.den, IT.den, f5, Option.map_some], by simpa using hp, ⟨hc1, cap, by rw [hρ1]; rfl, by rw [hs, Nat.mul_one]⟩, fun e => by cases e⟩
      have hqv : qOne.den ρ1 = some (.slice (some ⟨b1, 0, none⟩) m.Q.length cap) := by
        rw [hl1]; exact den_slice_of (by rw [hρ1]; rfl) rfl rfl (nvD (by rw [hρ1]; rfl))
      have hx : AVal.denL ρ1 [rmA qOne (.var 7) (.var 8), opN 2] = some [rmV (.slice (some ⟨b1, 0, none⟩) m.Q.length cap) m, .agg #[.int .i64 2, .int .i64 k, .int .i64 a, .int .i64 b]] :=
        denL2 (rmA_den hqv (varD f7) (varD f8)) (by simp only [opN, iV, AVal.den, AVal.denL, IT.den, f14, f15, f16, Option.map_some]; rfl)
      have hcs : CRel ρ1 (fRN 2 true ++ kC) := CRel_app.2 ⟨c1 (by rw [rgt_den (litD (ρ := ρ1) (Int.ofNat 2)) (varD f14) (varD f15) (varD f16)]; exact congrArg some hR) c0, qD (varD f14) (litD 0) (by simp [intCmp]; omega) (qD (varD f14) (litD 256) (by simp [intCmp]; omega) c0)⟩
      refine callM spAp_ok Try.func37 rfl k2o hx hr1 hcs (one (doneR (T := eZ) rfl (fun l hl => by cases hl) fun ρ' hle hG => ⟨hG, c0, fun x w' sr => ?_⟩))
      obtain ⟨y, hy, he⟩ := sr.t 0 _ rfl
      obtain rfl : x = y := Option.some.inj he
      have e22 : (s2o.app ρ').I 22 = encL (arrL m.M) := sbI (t := v7) rfl (varD (by rw [hle.i]; exact f7))
      have e23 : (s2o.app ρ').I 23 = encL (arrL m.S) := sbI (t := v8) rfl (varD (by rw [hle.i]; exact f8))
      have e24 : (s2o.app ρ').I 24 = 0 := sbI (t := .lit 0) rfl rfl
      have e25 : (s2o.app ρ').I 25 = q0 := sbI (t := .var 5) rfl (varD (by rw [hle.i]; exact f5))
      cases hN : (s2o.app ρ').N 9 with
      | none =>
        exfalso
        simp only [AVal.den, AVal.denL, rmA, hN] at hy
        cases hy
      | some b9 =>
        have hv : (AVal.slice 9 (.lit 0) (.lit 0) (.lit 0)).den (s2o.app ρ') = some (.slice (some ⟨b9, 0, none⟩) 0 0) := den_slice_of (n := 0) (c := 0) hN rfl rfl rfl
        have hz := tuple2 (rmA_den hv (varD e22) (varD e23)) (ans_den e24 e25)
        refine ⟨_, ?_, Framed.of sr.h, .inr (.inr ⟨by simp [hq0], ⟨b9, rfl⟩, by simp⟩)⟩
        rw [hg0]
        exact Option.some.inj (hy.symm.trans hz)
  · have hQ := s.n hz
    rw [show apply m 2 k a b = ((1, 0), m) by simp only [apply, hQ, if_true]]
    exact goK s hm hq hr (k2n z hz) hR c0 rfl fun ρ' s' hG => ⟨varD s'.i7, varD s'.i8, rfl, rfl⟩
theorem apply37 (hm : VOk m) (hq : QV w m.Q vq) : ApR w vq m c k a b (applyO m c k a b) := by
  unfold applyO
  obtain ⟨z, ρ, s, hr⟩ := start37 m c k a b hq
  by_cases hR : rgt c k a b = true
  · rw [if_pos hR]
    obtain ⟨n, rfl⟩ : ∃ n : Nat, c = (n : Int) := ⟨c.toNat, by have := rgt_in hR; omega⟩
    have hk := rgt_in hR
    have hn : n ≤ 14 := by omega
    rw [Int.toNat_natCast]
    match n, hn, s, hR with
    | 0, _, s, hR => exact goK s hm hq hr (k0 z) hR c0 rfl fun ρ' s' hG => ⟨varD s'.i7, varD s'.i8, rfl, rfl⟩
    | 1, _, s, hR => exact code1 s hm hq hr hR
    | 2, _, s, hR => exact code2 s hm hq hr hR
    | 3, _, s, hR => exact goK s hm hq hr (k3 z) hR c0 rfl fun ρ' s' hG => ⟨varD s'.i7, varD s'.i8, rfl, nQ_den s'⟩
    | 4, _, s, hR => exact code4 s hm hq hr hR
    | 5, _, s, hR => exact code5 s hm hq hr hR
    | 6, _, s, hR => exact code6 s hm hq hr hR
    | 7, _, s, hR => exact code7 s hm hq hr hR
    | 8, _, s, hR =>
      refine goK s hm hq hr (k8 z) hR c0 rfl fun ρ' s' hG => ⟨varD s'.i7, varD s'.i8, rfl, ?_⟩
      have h55 : ρ'.F 55 = f55 := hG
      rw [fnD (varD s'.i7) (litD 0), h55]
      show some ((cntX (encL (arrL m.M)) 256 : Nat) : Int) = some (((m.M.length / 2 : Nat)) : Int)
      rw [cntX_R _ _ (Nat.le_refl _), cnt_all hm.mm]
    | 9, _, s, hR => exact floor37 s hm hq hr hR
    | 10, _, s, hR => exact code10 s hm hq hr hR
    | 11, _, s, hR => exact code11 s hm hq hr hR
    | 12, _, s, hR => exact code12 s hm hq hr hR
    | 13, _, s, hR => exact code13 s hm hq hr hR
    | 14, _, s, hR => exact code14 s hm hq hr hR
    | n + 15, h, _, _ => omega
  · have hR' : rgt c k a b = false := by simpa using hR
    rw [if_neg hR]
    refine callM spAp_ok Try.func37 rfl (kw z) (denL2 (rmA_den s.q (varD s.i7) (varD s.i8)) (by simp only [opW, iV, AVal.den, AVal.denL, IT.den, s.i13, s.i14, s.i15, s.i16, Option.map_some])) hr (CRel_app.2 ⟨c1 (by rw [rgt_den (varD s.i13) (varD s.i14) (varD s.i15) (varD s.i16)]; exact congrArg some hR') c0, s.csq hm⟩) (one (endK (r := ((1, 0), m)) s hq rfl fun ρ' hle hG => ?_))
    have s' := s.of_le hle
    exact ⟨varD s'.i7, varD s'.i8, rfl, rfl⟩
/-- Such a model stays one. -/
theorem VOk.apply (hm : VOk m) : VOk (applyO m c k a b).2 := by
  unfold applyO
  split
  · rename_i hR
    have hk := rgt_in hR
    have hK : 0 ≤ k ∧ k ≤ 255 := by omega
    have hA : 0 ≤ a ∧ a ≤ 1023 := by omega
    have hB : 0 ≤ b ∧ b ≤ 1023 := by omega
    have hq := hm.qq
    obtain ⟨n, rfl⟩ : ∃ n : Nat, c = (n : Int) := ⟨c.toNat, by omega⟩
    have hn : n ≤ 14 := by omega
    rw [Int.toNat_natCast]
    have stp : ∀ {v d e x : Int}, mGet m.S k = some v → (v ≠ e → 0 ≤ v + d ∧ v + d ≤ 1023) → VOk (stepM m k v d e x).2 := fun {v d e x} hg h => by
      unfold stepM
      split
      · exact hm
      · rename_i hne
        have := h hne
        rw [wrapI (by omega) (by omega)]
        exact ⟨hq, hm.mm, hm.ss.put hK this⟩
    match n, hn with
    | 0, _ => exact hm
    | 1, _ =>
      simp only [Md.apply]
      split
      · exact hm
      · exact ⟨by simp; omega, hm.mm, hm.ss⟩
    | 2, _ =>
      simp only [Md.apply]
      split
      · exact hm
      · exact ⟨by simp; omega, hm.mm, hm.ss⟩
    | 3, _ => exact hm
    | 4, _ => exact hm
    | 5, _ => exact ⟨hq, hm.mm.put hK hA, hm.ss⟩
    | 6, _ => exact ⟨hq, hm.mm.del k, hm.ss⟩
    | 7, _ =>
      simp only [Md.apply]
      split
      · exact hm
      · split
        · exact ⟨hq, hm.mm.put hK hB, hm.ss⟩
        · exact hm
    | 8, _ => exact hm
    | 9, _ => exact hm
    | 10, _ => exact ⟨hq, hm.mm, hm.ss.put hK hA⟩
    | 11, _ =>
      simp only [Md.apply]
      split
      · exact hm
      · rename_i v hg
        have hv := hm.ss.vl _ _ hg
        exact stp hg fun h => by omega
    | 12, _ =>
      simp only [Md.apply]
      split
      · exact hm
      · rename_i v hg
        have hv := hm.ss.vl _ _ hg
        exact stp hg fun h => by omega
    | 13, _ => exact hm
    | 14, _ => exact ⟨hq, hm.mm, hm.ss.del k⟩
    | n + 15, h => omega
  · exact hm
end
end Lt
end Go.Proofs.Ytpgonpjakllnjaa
end

/-
  LinearTells (19): the reference's Apply, where its replay calls it.
-/
section
namespace Go.Proofs.Ytpgonpjakllnjaa
open Go.Vm Go.Vm.Md Lm
namespace Lt

/-- The same block, told in another way. -/
theorem _root_.Go.Vm.HRel.reterm {β : Base} {ρ : Env} {H : Heap} {nl : Nat} {w : World} (hh : HRel β ρ H nl w) {l b : Nat} {k0 k : ABlk} {rw : Bool} {o : Obj} (hl : H.get l = some ⟨k0, rw⟩) (hb : ρ.N l = some b) (ho : w.heap[b]? = some o) (hk : k.rel ρ rw o) (hnb : k.nb = true) : HRel β ρ (H.set l ⟨k, rw⟩) nl w := by
  have key : ∀ l1 k1, (H.set l ⟨k, rw⟩).get l1 = some k1 → ∃ k2, H.get l1 = some k2 ∧ k2.rw = k1.rw := fun l1 k1 h1 => by
    rcases Tr.get_set h1 with ⟨rfl, rfl⟩ | ⟨_, h1⟩
    · exact ⟨_, hl, rfl⟩
    · exact ⟨_, h1, rfl⟩
  obtain ⟨Fp, hB⟩ := hh.big
  refine ⟨fun l1 k1 h1 => ?_, fun l1 l2 k1 k2 h1 h2 hr he => ?_, fun l1 k1 b1 h1 hr hb1 => ?_, hh.fresh, hh.ownN, hh.size, hh.frame, hh.tape, hh.os, hh.out, hh.g, Fp, hB.set hnb hb (fun l1 k1 c rw1 h1 hne hy => (hB.apart _ _ _ _ _ _ h1 hl hne _ hy).1 hb) (fun _ _ _ => rfl)⟩
  · rcases Tr.get_set h1 with ⟨rfl, rfl⟩ | ⟨_, h1⟩
    · exact ⟨b, o, hb, ho, hk⟩
    · exact hh.blk l1 k1 h1
  · obtain ⟨g1, e1, e2⟩ := key _ _ h1
    obtain ⟨g2, e3, e4⟩ := key _ _ h2
    exact hh.inj _ _ _ _ e1 e3 (e2.trans hr) he
  · obtain ⟨g1, e1, e2⟩ := key _ _ h1
    exact hh.own _ _ _ e1 (e2.trans hr) hb1
/-- One or the other. -/
def spOr (F G : SpG) : SpG := fun args H nl cs => match F args H nl cs with
  | some l => some l
  | none => G args H nl cs
theorem spOr_ok {P : Program} {β : Base} {g : FuncId} {F G : SpG} (h1 : SpGOk P β g F) (h2 : SpGOk P β g G) : SpGOk P β g (spOr F G) := by
  intro args H nl cs ls ρ w xs hr hx hh hc
  unfold spOr at hr
  cases hF : F args H nl cs with
  | some l => rw [hF] at hr; cases hr; exact h1 args H nl cs _ ρ w xs hF hx hh hc
  | none => rw [hF] at hr; exact h2 args H nl cs ls ρ w xs hr hx hh hc
/-- What the names of such a loop are. -/
def f56 (d : Dt) (x i : Int) : Int := (d.go (Mod.of x) (d.o i.toNat)).2.code
def f57 (d : Dt) (x i : Int) : Int := (d.go (Mod.of x) (d.o i.toNat)).1.1
def f58 (d : Dt) (x i : Int) : Int := (d.go (Mod.of x) (d.o i.toNat)).1.2
def f59 (d : Dt) (i _ : Int) : Int := (d.go mod0 (d.o i.toNat)).2.code
def G15 (d : Dt) : GP := fun I B S V F => Gd d I B S V F ∧ (F 56 = f56 d ∧ F 57 = f57 d ∧ F 58 = f58 d ∧ F 59 = f59 d) ∧ ∃ m : Mod, VOk m ∧ I 21 = m.code
/-- The model before: none yet, or one with a name. -/
def XT : Bool → IT
  | false => m0T
  | true => .var 21
def cMT : Bool → IT
  | false => .lit 0
  | true => .fn 51 (.var 21) (.lit 0)
def cST : Bool → IT
  | false => .lit 0
  | true => .fn 52 (.var 21) (.lit 0)
def nX : IT := .fn 54 (.var 21) (.lit 0)
def qz : Kd → AVal
  | .nil => .sliceNil
  | .zero => .slice 2 (.lit 0) (.lit 0) (.lit 0)
  | .row => .slice 2 (.lit 0) nX (.nv 4)
def qB2 : ABlk := .arr (.code [.i64] (.fn 53 (.var 21) (.lit 0))) [.i64] 3 nX (.lit 0) (some (.nv 4))
def opR : AVal := .agg [.int .i64 (rT (oT at9) 2), .int .i64 (rT (oT at9) 3), .int .i64 (rT (oT at9) 4), .int .i64 (rT (oT at9) 5)]
def xN : Bool → IT
  | false => .fn 59 at9 (.lit 0)
  | true => .fn 56 (.var 21) at9
def nN (u : Bool) : IT := .fn 54 (xN u) (.lit 0)
def qN (u : Bool) (l c : Nat) : AVal := .slice l (.lit 0) (nN u) (.nv c)
def kN (u : Bool) (c : Nat) : ABlk := .arr (.code [.i64] (.fn 53 (xN u) (.lit 0))) [.i64] 3 (nN u) (.lit 0) (some (.nv c))
def outN (u : Bool) (q : AVal) : AVal := .tuple [rmA q (.fn 51 (xN u) (.lit 0)) (.fn 52 (xN u) (.lit 0)), .agg [.int .i64 (.fn 57 (XT u) at9), .int .i64 (.fn 58 (XT u) at9)]]
def eNow (u : Bool) : BT := .cmp .eql (.fn 54 (XT u) (.lit 0)) (.lit 0)
def eNxt (u : Bool) : BT := .cmp .eql (nN u) (.lit 0)
def notRow : Kd → Bool
  | .row => false
  | _ => true
def hasQ (z : Kd) (H : Heap) : Bool := match z with
  | .row => match H.get 2 with
    | some k => ABlk.beq k.k qB2 && k.rw
    | none => false
  | _ => true
def nowC : Bool → Kd → Cs
  | false, _ => []
  | true, z => [(eNow true, notRow z)]
/-- Is the queue as long as before? -/
def eSame : BT := .cmp .eql (nN true) nX
def samC : Kd → Bool → Cs
  | .row, s => [(eSame, s)]
  | _, _ => []
def spAp1 (u : Bool) (z : Kd) (e s : Bool) : SpG := fun args H nl cs =>
  cond (lookC ((eNxt u, e) :: (nowC u z ++ samC z s)) cs && (hasQ z H && AVal.beqL args [rmA (qz z) (cMT u) (cST u), opR]))
    (some (match e, z with
      | true, .nil => [.ret (outN u .sliceNil) H nl cs]
      | true, _ => [.ret (outN u (.slice nl (.lit 0) (.lit 0) (.lit 0))) H (nl + 1) cs]
      | false, .row => cond s [.ret (outN u (qN u 2 4)) (H.set 2 ⟨kN u 4, true⟩) nl cs] [.ret (outN u (qN u (nl + 1) nl)) (H.set (nl + 1) ⟨kN u nl, true⟩) (nl + 2) cs]
      | false, _ => [.ret (outN u (qN u (nl + 1) nl)) (H.set (nl + 1) ⟨kN u nl, true⟩) (nl + 2) cs])) none
theorem rmA_den' {ρ : Env} {q : AVal} {cM cS : IT} {vq : Value} {m : Mod} {y1 y2 : Int} (hq : q.den ρ = some vq) (hM : cM.den ρ = some y1) (hS : cS.den ρ = some y2) (g1 : arV y1 256 = arV (encL (arrL m.M)) 256) (g2 : arV y2 256 = arV (encL (arrL m.S)) 256) : (rmA q cM cS).den ρ = some (rmV vq m) := by
  have h1 := AVal.denL_append (uniC_den (n := 256) hM) (uniC_den (n := 256) hS)
  simp only [rmA, AVal.den, AVal.denL, hq]
  rw [h1]
  unfold rmV
  rw [← g1, ← g2]; rfl
theorem arV0 : arV 0 256 = arV (encL (arrL [])) 256 := by
  unfold arV
  rw [decL_encL]
  apply List.map_congr_left
  intro j hj
  rw [arrL_get (List.mem_range.1 hj)]
  show Value.int .i64 ((decL (encL [])).getD j 0) = _
  rw [decL_encL]; rfl
theorem opR_den {ρ : Env} {x : AVal} {xs : List Value} (h : AVal.denL ρ [x, opR] = some xs) : ∃ v c k a b, x.den ρ = some v ∧ (rT (oT at9) 2).den ρ = some c ∧ (rT (oT at9) 3).den ρ = some k ∧ (rT (oT at9) 4).den ρ = some a ∧ (rT (oT at9) 5).den ρ = some b ∧ xs = [v, .agg #[.int .i64 c, .int .i64 k, .int .i64 a, .int .i64 b]] := by
  simp only [opR, AVal.denL, AVal.den] at h
  cases h1 : x.den ρ with
  | none => rw [h1] at h; cases h
  | some v =>
    cases h2 : (rT (oT at9) 2).den ρ with
    | none => rw [h1, h2] at h; cases h
    | some c =>
      cases h3 : (rT (oT at9) 3).den ρ with
      | none => rw [h1, h2, h3] at h; cases h
      | some k =>
        cases h4 : (rT (oT at9) 4).den ρ with
        | none => rw [h1, h2, h3, h4] at h; cases h
        | some a =>
          cases h5 : (rT (oT at9) 5).den ρ with
          | none => rw [h1, h2, h3, h4, h5] at h; cases h
          | some b =>
            rw [h1, h2, h3, h4, h5] at h
            exact ⟨v, c, k, a, b, rfl, rfl, rfl, rfl, rfl, (Option.some.inj h).symm⟩
section
variable {d : Dt} {ρ : Env} {H : Heap} {nl : Nat} {w : World} {m m' : Mod}
theorem relN {c cap : Nat} {o : Obj} (h : RowM m'.Q cap o) {u : Bool} (e53 : (IT.fn 53 (xN u) (.lit 0)).den ρ = some (encL m'.Q)) (e54 : (nN u).den ρ = some (m'.Q.length : Int)) (ec : ρ.N c = some cap) : (kN u c).rel ρ true o := by
  obtain ⟨cc, fr, rfl, hp, hs, hf⟩ := h
  refine ⟨rowOf [.i64] m'.Q, cc, fr, 3, m'.Q.length, 0, rfl, (fun _ => rfl), ?_, rfl, ⟨Nat.zero_le _, ?_⟩, e54, rowOf_typed (by simp), ⟨cap, nvD ec, by simp [hs]⟩, (fun _ => hf)⟩
  · simp only [AT.den, e53, Option.map_some, decL_encL]
  · rw [List.drop_zero, rowOf1]; exact hp
theorem oT_den' (h : (Gd d).at ρ) {a : IT} {i : Int} (ha : a.den ρ = some i) : (oT a).den ρ = some (d.o i.toNat) := by
  unfold oT
  simp only [IT.den, h.1 _ (show (37, d.y) ∈ pins d by simp [pins]), ha]
  show some ((decL d.y).getD (Int.toNat (Int.ofNat ((0 : Int).toNat + (i.toNat * 1 + 0)))) 0) = _
  rw [show Int.toNat (Int.ofNat ((0 : Int).toNat + (i.toNat * 1 + 0))) = i.toNat by
    show (0 : Int).toNat + (i.toNat * 1 + 0) = _; simp]
  rfl
/-- The queue's slice, as it stands. -/
theorem qz_in {z : Kd} {vq : Value} {β : Base} (hh : HRel β ρ H nl w) (hQ : hasQ z H = true) (hv : (qz z).den ρ = some vq) (he : notRow z = true ↔ m.Q = []) (h56 : m.Q ≠ [] → (IT.fn 53 (.var 21) (.lit 0)).den ρ = some (encL m.Q) ∧ nX.den ρ = some (m.Q.length : Int)) : QV w m.Q vq ∧ (z = .nil ↔ vq = .slice none 0 0) ∧ (z = .zero → ∃ p, vq = .slice (some ⟨p, 0, none⟩) 0 0 ∧ ρ.N 2 = some p) ∧ (z = .row → ∃ b cap o, vq = .slice (some ⟨b, 0, none⟩) m.Q.length cap ∧ ρ.N 2 = some b ∧ ρ.N 4 = some cap ∧ w.heap[b]? = some o ∧ RowM m.Q cap o ∧ H.get 2 = some ⟨qB2, true⟩) := by
  cases z with
  | nil =>
    obtain rfl : vq = .slice none 0 0 := (Option.some.inj hv).symm
    exact ⟨.inl ⟨none, rfl, (fun p h => by cases h), he.1 rfl⟩, ⟨fun _ => rfl, fun _ => rfl⟩, (fun h => by cases h), fun h => by cases h⟩
  | zero =>
    cases hN : ρ.N 2 with
    | none => simp only [qz, AVal.den, hN] at hv; cases hv
    | some p =>
      obtain rfl : vq = .slice (some ⟨p, 0, none⟩) 0 0 := Option.some.inj (hv.symm.trans (den_slice_of (n := 0) (c := 0) hN rfl rfl rfl))
      exact ⟨.inl ⟨_, rfl, (fun q h => by cases h; rfl), he.1 rfl⟩, ⟨fun h => (by cases h), fun h => by cases h⟩, fun _ => ⟨p, rfl, rfl⟩, fun h => by cases h⟩
  | row =>
    have hne : m.Q ≠ [] := fun h => by have := he.2 h; cases this
    obtain ⟨e5, e6⟩ := h56 hne
    unfold hasQ at hQ
    simp only at hQ
    cases hk : H.get 2 with
    | none => rw [hk] at hQ; cases hQ
    | some kk =>
      rw [hk] at hQ
      simp only [Bool.and_eq_true] at hQ
      obtain ⟨kk, rw0⟩ := kk
      obtain ⟨hq1, hq2⟩ := hQ
      simp only at hq1 hq2
      obtain rfl := ABlk.beq_eq hq1
      subst hq2
      obtain ⟨b, o, hb, ho, hr⟩ := hh.blk 2 _ hk
      obtain ⟨xs, c, fr, el, n, st, rfl, hel, hd, hst, ⟨h1, h2⟩, hn, hty, hroom, hf⟩ := hr
      obtain ⟨cap, hc, hs⟩ := hroom
      obtain rfl : st = 0 := by have := Option.some.inj hst; exact (Int.ofNat.inj this).symm
      obtain rfl := hel rfl
      have hc4 : ρ.N 4 = some cap := by
        cases h4 : ρ.N 4 with
        | none => simp only [IT.den, h4] at hc; cases hc
        | some c' =>
          have := nvD h4
          rw [hc] at this
          rw [Int.ofNat.inj (Option.some.inj this)]
      have hsl := den_slice_of (off := .lit 0) (o := 0) hb rfl e6 (nvD hc4)
      obtain rfl : vq = _ := Option.some.inj (hv.symm.trans hsl)
      have hxs : xs = m.Q.map (Value.int .i64) := by
        have : (AT.code [.i64] (.fn 53 (.var 21) (.lit 0))).den ρ = some (rowOf [.i64] m.Q) := by simp only [AT.den, e5, Option.map_some, decL_encL]
        rw [← rowOf1]
        exact Option.some.inj (hd.symm.trans this)
      have hrm : RowM m.Q cap (.cells c 3 fr) := ⟨c, fr, rfl, by rw [List.drop_zero, hxs] at h2; exact h2, by simpa using hs, hf rfl⟩
      exact ⟨.inr ⟨b, cap, _, hne, rfl, ho, hrm⟩, ⟨fun h => (by cases h), fun h => by cases h⟩, (fun h => by cases h), fun _ => ⟨b, cap, _, rfl, hb, hc4, ho, hrm, rfl⟩⟩
theorem spAp1_ok {β : Base} (hβ : β.G = G15 d) (u : Bool) (z : Kd) (hz : u = false → z = .nil) (e sm : Bool) : SpGOk Try.prog β 37 (spAp1 u z e sm) := by
  intro args H nl cs ls ρ w xs hr hx hh hc
  have hG : (G15 d).at ρ := by have := hh.g; rw [hβ] at this; exact this
  obtain ⟨hGd, ⟨g56, g57, g58, g59⟩, m1, hm1, e211⟩ := hG
  have hGd' : (Gd d).at ρ := hGd
  obtain ⟨_, _, _, _, _, g51, g52, g53, g54, _⟩ := hGd
  obtain ⟨m, hm, e21, eM, eS, hu⟩ : ∃ m : Mod, VOk m ∧ (XT u).den ρ = some m.code ∧ (∃ y, (cMT u).den ρ = some y ∧ arV y 256 = arV (encL (arrL m.M)) 256) ∧ (∃ y, (cST u).den ρ = some y ∧ arV y 256 = arV (encL (arrL m.S)) 256) ∧ (u = false → m = mod0) := by
    cases u with
    | false => exact ⟨mod0, VOk0, m0T_den, ⟨0, rfl, arV0⟩, ⟨0, rfl, arV0⟩, fun _ => rfl⟩
    | true =>
      refine ⟨m1, hm1, varD e211, ⟨encL (arrL m1.M), ?_, rfl⟩, ⟨encL (arrL m1.S), ?_, rfl⟩, fun h => by cases h⟩
      · rw [cMT, fnD (varD e211) (litD 0), g51]; show some (encL (arrL (Mod.of m1.code).M)) = _; rw [Mod.of_code]
      · rw [cST, fnD (varD e211) (litD 0), g52]; show some (encL (arrL (Mod.of m1.code).S)) = _; rw [Mod.of_code]
  obtain ⟨y1, e7, a7⟩ := eM
  obtain ⟨y2, e8, a8⟩ := eS
  unfold spAp1 at hr
  cases hb : (lookC ((eNxt u, e) :: (nowC u z ++ samC z sm)) cs && (hasQ z H && AVal.beqL args [rmA (qz z) (cMT u) (cST u), opR])) with
  | false => rw [hb] at hr; cases hr
  | true =>
    rw [hb] at hr; simp only [cond_true, Option.some.injEq] at hr
    simp only [Bool.and_eq_true] at hb
    obtain ⟨h3, h2, h1⟩ := hb
    obtain rfl := AVal.beqL_eq _ _ h1
    have hcs := lookC_ok h3 hc
    obtain ⟨v, c, k, a, b, hv, d2, d3, d4, d5, rfl⟩ := opR_den hx
    have e9 : at9.den ρ = some (ρ.I 9) := rfl
    have eo : (oT at9).den ρ = some (d.o (ρ.I 9).toNat) := oT_den' hGd' e9
    have hgo : applyO m c k a b = d.go m (d.o (ρ.I 9).toNat) := by
      have q2 := rT_den hGd' eo 2
      have q3 := rT_den hGd' eo 3
      have q4 := rT_den hGd' eo 4
      have q5 := rT_den hGd' eo 5
      rw [d2] at q2; rw [d3] at q3; rw [d4] at q4; rw [d5] at q5
      rw [Option.some.inj q2, Option.some.inj q3, Option.some.inj q4, Option.some.inj q5]; rfl
    have eX : (xN u).den ρ = some (applyO m c k a b).2.code := by
      cases u with
      | false => rw [xN, fnD e9 (litD 0), g59, hgo, hu rfl]; rfl
      | true => rw [xN, fnD (t := .var 21) e21 e9, g56, hgo]; show some (d.go (Mod.of m.code) _).2.code = _; rw [Mod.of_code]
    have e70 : (IT.fn 57 (XT u) at9).den ρ = some (applyO m c k a b).1.1 := by
      rw [fnD e21 e9, g57, hgo]; show some (d.go (Mod.of m.code) _).1.1 = _; rw [Mod.of_code]
    have e71 : (IT.fn 58 (XT u) at9).den ρ = some (applyO m c k a b).1.2 := by
      rw [fnD e21 e9, g58, hgo]; show some (d.go (Mod.of m.code) _).1.2 = _; rw [Mod.of_code]
    generalize hm' : (applyO m c k a b).2 = m' at eX
    have e51 : (IT.fn 51 (xN u) (.lit 0)).den ρ = some (encL (arrL m'.M)) := by rw [fnD eX (litD 0), g51]; show some (encL (arrL (Mod.of m'.code).M)) = _; rw [Mod.of_code]
    have e52 : (IT.fn 52 (xN u) (.lit 0)).den ρ = some (encL (arrL m'.S)) := by rw [fnD eX (litD 0), g52]; show some (encL (arrL (Mod.of m'.code).S)) = _; rw [Mod.of_code]
    have e53 : (IT.fn 53 (xN u) (.lit 0)).den ρ = some (encL m'.Q) := by rw [fnD eX (litD 0), g53]; show some (encL (Mod.of m'.code).Q) = _; rw [Mod.of_code]
    have e54 : (nN u).den ρ = some (m'.Q.length : Int) := by rw [nN, fnD eX (litD 0), g54]; show some ((Mod.of m'.code).Q.length : Int) = _; rw [Mod.of_code]
    have e54n : (IT.fn 54 (XT u) (.lit 0)).den ρ = some (m.Q.length : Int) := by rw [fnD e21 (litD 0), g54]; show some ((Mod.of m.code).Q.length : Int) = _; rw [Mod.of_code]
    have nowE : notRow z = true ↔ m.Q = [] := by
      cases u with
      | false => rw [hz rfl]; exact ⟨fun _ => by rw [hu rfl]; rfl, fun _ => rfl⟩
      | true =>
        have h := hcs _ (List.mem_cons_of_mem _ (List.mem_cons_self ..))
        have h' : (eNow true).den ρ = some (decide ((m.Q.length : Int) = 0)) := by unfold eNow; simp only [BT.den, e54n]; rfl
        simp only at h
        rw [h'] at h
        rw [← Option.some.inj h]
        simp
    have h56 : m.Q ≠ [] → (IT.fn 53 (.var 21) (.lit 0)).den ρ = some (encL m.Q) ∧ nX.den ρ = some (m.Q.length : Int) := fun hne => by
      cases u with
      | false => exact absurd (by rw [hu rfl]; rfl) hne
      | true => exact ⟨by rw [fnD (t := .var 21) e21 (litD 0), g53]; show some (encL (Mod.of m.code).Q) = _; rw [Mod.of_code], e54n⟩
    have nxtE : e = true ↔ m'.Q = [] := by
      have h := hcs _ (List.mem_cons_self ..)
      have h' : (eNxt u).den ρ = some (decide ((m'.Q.length : Int) = 0)) := by unfold eNxt; simp only [BT.den, e54]; rfl
      simp only at h
      rw [h'] at h
      rw [← Option.some.inj h]
      simp
    have samE : z = .row → (sm = true ↔ m'.Q.length = m.Q.length) := fun hzr => by
      subst hzr
      cases u with
      | false => cases hz rfl
      | true =>
        have h := hcs _ (List.mem_cons_of_mem _ (List.mem_append_right _ (List.mem_cons_self ..)))
        have h' : eSame.den ρ = some (decide ((m'.Q.length : Int) = (m.Q.length : Int))) := by
          unfold eSame nX
          simp only [BT.den, e54]
          rw [show (IT.fn 54 (.var 21) (.lit 0)).den ρ = some (m.Q.length : Int) from e54n]; rfl
        simp only at h
        rw [h'] at h
        rw [← Option.some.inj h]
        simp only [decide_eq_true_eq]
        omega
    obtain ⟨vq, hvq⟩ : ∃ vq, (qz z).den ρ = some vq := by
      cases h : (qz z).den ρ with
      | some vq => exact ⟨vq, rfl⟩
      | none => simp only [rmA, AVal.den, AVal.denL, h] at hv; cases hv
    obtain ⟨hqv, hznil, hzzero, hzrow⟩ := qz_in hh h2 hvq nowE h56
    obtain rfl : v = rmV vq m := Option.some.inj (hv.symm.trans (rmA_den' hvq e7 e8 a7 a8))
    have out : ∀ {ρ'} {q : AVal} {vq' : Value}, ρ.Le ρ' → q.den ρ' = some vq' → (outN u q).den ρ' = some (.tuple #[rmV vq' m', .agg #[.int .i64 (applyO m c k a b).1.1, .int .i64 (applyO m c k a b).1.2]]) := fun {ρ' q vq'} hle hq =>
      tuple2 (rmA_den hq (IT.den_mono hle e51) (IT.den_mono hle e52)) (by simp only [AVal.den, AVal.denL, IT.den_mono hle e70, IT.den_mono hle e71, Option.map_some])
    refine (apply37 hm hqv).mono fun ev w' ⟨y, hev, vq', hy, hfr, hqn⟩ => ⟨y, hev, ?_⟩
    rw [hm'] at hy hqn
    have new : ∀ {br n cc}, vq' = .slice (some ⟨br, 0, none⟩) n cc → w.heap.size ≤ br → m'.Q ≠ [] → QV w' m'.Q vq' → ∃ ρ', ρ.Le ρ' ∧ (outN u (qN u (nl + 1) nl)).den ρ' = some y ∧ HRel β ρ' (H.set (nl + 1) ⟨kN u nl, true⟩) (nl + 2) w' ∧ CRel ρ' cs := fun {br n cc} hvq' hbr hne hqv' => by
      rcases hqv' with ⟨_, _, _, h⟩ | ⟨b9, cap, o, _, e9, ho, hrm⟩
      · exact absurd h hne
      rw [hvq'] at e9
      injection e9 with e9 e10 e11
      injection e9 with e9
      injection e9 with e9 _ _
      subst e9 e10 e11
      have x1 := (HX.start hh hfr).num cc
      have hle1 : ρ.Le (ρ.put nl cc) := Env.le_put (hh.fresh nl (Nat.le_refl _))
      have hle2 : (ρ.put nl cc).Le ((ρ.put nl cc).put (nl + 1) br) := Env.le_put (x1.h.fresh _ (Nat.le_refl _))
      have hle := hle1.trans hle2
      have hN0 : ((ρ.put nl cc).put (nl + 1) br).N nl = some cc := hle2.n _ _ (Env.put_same ..)
      have x2 := x1.row (rw := true) hbr (fun h => h) ho (relN (c := nl) hrm (IT.den_mono hle e53) (IT.den_mono hle e54) hN0)
      refine ⟨_, hle, ?_, x2.h, hc.mono hle⟩
      rw [out hle (q := qN u (nl + 1) nl) (den_slice_of (Env.put_same ..) rfl (IT.den_mono hle e54) (nvD hN0)), hy, hvq']
    have num : ∀ {br}, vq' = .slice (some ⟨br, 0, none⟩) 0 0 → ∃ ρ', ρ.Le ρ' ∧ (outN u (.slice nl (.lit 0) (.lit 0) (.lit 0))).den ρ' = some y ∧ HRel β ρ' H (nl + 1) w' ∧ CRel ρ' cs := fun {br} hvq' => by
      have x1 := (HX.start hh hfr).num br
      have hle1 : ρ.Le (ρ.put nl br) := Env.le_put (hh.fresh nl (Nat.le_refl _))
      refine ⟨_, hle1, ?_, x1.h, hc.mono hle1⟩
      rw [out hle1 (den_slice_of (n := 0) (c := 0) (Env.put_same ..) rfl rfl rfl), hy, hvq']
    subst hr
    cases e with
    | true =>
      have hQ' := nxtE.1 rfl
      cases z with
      | nil =>
        have hvn := hznil.1 rfl
        rcases hqn with ⟨hq, _, _⟩ | ⟨_, _, _, _, _, hne, _, _⟩ | ⟨_, _, h⟩
        · exact ⟨_, _, _, _, ρ, List.mem_cons_self, Env.Le.refl ρ, by rw [out (Env.Le.refl ρ) (q := .sliceNil) (vq' := .slice none 0 0) rfl, hy, hq, hvn], hh.framed hfr, hc⟩
        · exact absurd hQ' hne
        · exact absurd hvn h
      | zero =>
        obtain ⟨p, hp, hN⟩ := hzzero rfl
        have : ∃ br, vq' = .slice (some ⟨br, 0, none⟩) 0 0 := by
          rcases hqn with ⟨hq, _, _⟩ | ⟨_, _, _, _, _, hne, _, _⟩ | ⟨_, h, _⟩
          · exact ⟨p, hq.trans hp⟩
          · exact absurd hQ' hne
          · exact h
        obtain ⟨br, hbr⟩ := this
        obtain ⟨ρ', g1, g2, g3, g4⟩ := num hbr
        exact ⟨_, _, _, _, ρ', List.mem_cons_self, g1, g2, g3, g4⟩
      | row =>
        obtain ⟨b0, cap, o, hv0, hN2, hN4, ho, hrm, hg2⟩ := hzrow rfl
        have hne : m.Q ≠ [] := fun h => by have := nowE.2 h; cases this
        have : ∃ br, vq' = .slice (some ⟨br, 0, none⟩) 0 0 := by
          rcases hqn with ⟨hq, hq2, _⟩ | ⟨_, _, _, _, _, hne, _, _⟩ | ⟨_, h, _⟩
          · exfalso
            rcases hq2 with ⟨_, e9, _⟩ | ⟨_, _, _, h, _⟩
            · rw [hv0] at e9
              injection e9 with _ e9 _
              exact hne (List.eq_nil_of_length_eq_zero e9)
            · exact h hQ'
          · exact absurd hQ' hne
          · exact h
        obtain ⟨br, hbr⟩ := this
        obtain ⟨ρ', g1, g2, g3, g4⟩ := num hbr
        exact ⟨_, _, _, _, ρ', List.mem_cons_self, g1, g2, g3, g4⟩
    | false =>
      have hQ' : m'.Q ≠ [] := fun h => by have := nxtE.2 h; cases this
      have nw : (∃ br n cc, vq' = .slice (some ⟨br, 0, none⟩) n cc ∧ w.heap.size ≤ br ∧ QV w' m'.Q vq') → ∃ ρ', ρ.Le ρ' ∧ (outN u (qN u (nl + 1) nl)).den ρ' = some y ∧ HRel β ρ' (H.set (nl + 1) ⟨kN u nl, true⟩) (nl + 2) w' ∧ CRel ρ' cs := fun ⟨_, _, _, h1, h2, h3⟩ => new h1 h2 hQ' h3
      cases z with
      | nil =>
        have hvn := hznil.1 rfl
        rcases hqn with ⟨hq, hq2, _⟩ | ⟨br, n, cc, h1, h2, _, h3, _⟩ | ⟨h, _, _⟩
        · exfalso
          rcases hq2 with ⟨_, _, _, h⟩ | ⟨_, _, _, _, e9, _⟩
          · exact hQ' h
          · rw [hvn] at e9; cases e9
        · obtain ⟨ρ', g1, g2, g3, g4⟩ := nw ⟨br, n, cc, h1, h2, h3⟩
          exact ⟨_, _, _, _, ρ', List.mem_cons_self, g1, g2, g3, g4⟩
        · exact absurd h hQ'
      | zero =>
        obtain ⟨p, hp, hN⟩ := hzzero rfl
        rcases hqn with ⟨hq, hq2, _⟩ | ⟨br, n, cc, h1, h2, _, h3, _⟩ | ⟨h, _, _⟩
        · exfalso
          rcases hq2 with ⟨_, _, _, h⟩ | ⟨_, _, _, _, e9, _⟩
          · exact hQ' h
          · rw [hp] at e9
            injection e9 with _ e9 _
            exact hQ' (List.eq_nil_of_length_eq_zero e9.symm)
        · obtain ⟨ρ', g1, g2, g3, g4⟩ := nw ⟨br, n, cc, h1, h2, h3⟩
          exact ⟨_, _, _, _, ρ', List.mem_cons_self, g1, g2, g3, g4⟩
        · exact absurd h hQ'
      | row =>
        obtain ⟨b0, cap, o, hv0, hN2, hN4, ho, hrm, hg2⟩ := hzrow rfl
        have hsm := samE rfl
        rcases hqn with ⟨hq, hq2, heq⟩ | ⟨br, n, cc, k1, k2, _, k3, hnq⟩ | ⟨h, _, _⟩
        · obtain rfl : sm = true := hsm.2 (by rw [heq])
          rcases hq2 with ⟨_, _, _, h⟩ | ⟨b9, cap9, o9, _, e9, ho9, hrm9⟩
          · exact absurd h hQ'
          · have e9' := e9
            rw [hv0] at e9
            injection e9 with e9 e10 e11
            injection e9 with e9
            injection e9 with e9 _ _
            subst e9 e11
            have hlt : b0 < w.heap.size := by
              rcases Nat.lt_or_ge b0 w.heap.size with h | h
              · exact h
              · rw [Array.getElem?_eq_none h] at ho9; cases ho9
            have hh' := hh.framed hfr
            have ho' : w'.heap[b0]? = some o9 := (hfr.frame b0 hlt).trans ho9
            have h5 := hh'.reterm hg2 hN2 ho' (relN (ρ := ρ) (c := 4) hrm9 e53 e54 hN4) rfl
            exact ⟨_, _, _, _, ρ, List.mem_cons_self, Env.Le.refl ρ, by rw [out (Env.Le.refl ρ) (q := qN u 2 4) (den_slice_of hN2 rfl e54 (nvD hN4)), hy, hq, e9'], h5, hc⟩
        · obtain rfl : sm = false := by
            cases hs : sm with
            | false => rfl
            | true => exact absurd (hsm.1 hs) hnq
          obtain ⟨ρ', g1, g2, g3, g4⟩ := nw ⟨br, n, cc, k1, k2, k3⟩
          exact ⟨_, _, _, _, ρ', List.mem_cons_self, g1, g2, g3, g4⟩
        · exact absurd h hQ'
end
def spApp : SpG := spOr (spAp1 false .nil true true) (spOr (spAp1 false .nil false true) (spOr (spAp1 true .nil true true) (spOr (spAp1 true .nil false true) (spOr (spAp1 true .zero true true) (spOr (spAp1 true .zero false true) (spOr (spAp1 true .row true true) (spOr (spAp1 true .row true false) (spOr (spAp1 true .row false true) (spAp1 true .row false false)))))))))
theorem spApp_ok {d : Dt} {β : Base} (hβ : β.G = G15 d) : SpGOk Try.prog β 37 spApp :=
  have h : ∀ z e s, SpGOk Try.prog β 37 (spAp1 true z e s) := fun z e s => spAp1_ok hβ true z (fun h => by cases h) e s
  spOr_ok (spAp1_ok hβ _ _ (fun _ => rfl) _ _) (spOr_ok (spAp1_ok hβ _ _ (fun _ => rfl) _ _) (spOr_ok (h _ _ _) (spOr_ok (h _ _ _) (spOr_ok (h _ _ _) (spOr_ok (h _ _ _) (spOr_ok (h _ _ _) (spOr_ok (h _ _ _) (spOr_ok (h _ _ _) (h _ _ _)))))))))
end Lt
end Go.Proofs.Ytpgonpjakllnjaa
end
