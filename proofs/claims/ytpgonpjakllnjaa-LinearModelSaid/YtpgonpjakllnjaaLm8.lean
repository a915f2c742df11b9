/-
  LinearModel (8): what Apply answers, and makes of a model.
-/
import Derived.Test.YtpgonpjakllnjaaLm7
namespace Go.Proofs.Ytpgonpjakllnjaa
open Go.Vm Go.Vm.Md
namespace Lm

def E0 : Env := envOf [] [] F0
/-- Is an operation right? -/
def rgt (c k a b : Int) : Bool := ((tRight (.lit c) (.lit k) (.lit a) (.lit b)).den E0).getD false
theorem rgt_den {ρ : Env} {tc tk ta tb : IT} {c k a b : Int} (h1 : tc.den ρ = some c) (h2 : tk.den ρ = some k) (h3 : ta.den ρ = some a) (h4 : tb.den ρ = some b) : (tRight tc tk ta tb).den ρ = some (rgt c k a b) := by
  obtain ⟨x, hx⟩ := tRight_some c k a b
  rw [tRight_lit (ρ0 := E0) h1 h2 h3 h4, rgt, hx]; rfl
theorem rgt_in {c k a b : Int} (h : rgt c k a b = true) : 0 ≤ c ∧ c ≤ 14 ∧ 0 ≤ k ∧ k ≤ 255 ∧ 0 ≤ a ∧ a ≤ 1023 ∧ 0 ≤ b ∧ b ≤ 1023 := by
  have e : ∃ X, (tRight (.lit c) (.lit k) (.lit a) (.lit b)).den E0 = some ((decide (c ≥ 0) && decide (c ≤ 14)) && ((decide (k ≥ 0) && decide (k ≤ 255)) && ((decide (a ≥ 0) && decide (a ≤ 1023)) && ((decide (b ≥ 0) && decide (b ≤ 1023)) && X)))) := ⟨_, andD rfl (andD rfl (andD rfl (andD rfl rfl)))⟩
  obtain ⟨X, e⟩ := e
  simp only [rgt, e, Option.getD_some, Bool.and_eq_true, decide_eq_true_eq] at h
  omega
def applyO (m : Mod) (c k a b : Int) : (Int × Int) × Mod := if rgt c k a b = true then apply m c.toNat k a b else ((1, 0), m)
def RM (w : World) (bb : Nat) (F : Nat → Prop) (r : (Int × Int) × Mod) : Value → World → Prop := fun x w' => x = ansV r.1 ∧ ∃ F', BigStep w w' F F' ∧ ModelIn w' bb F' r.2.Q r.2.M r.2.S
section
variable {w : World} {bb : Nat} {F : Nat → Prop} {z0 : Bq} {m : Mod} {c k a b : Int} {ρ : Env}
theorem endA {q : Nat} {z : Bq} {l : Nat} {σ : Sub} {r : (Int × Int) × Mod} (hb : ρ.N 0 = some bb) (ho : ∀ l ∈ oM z0, ∃ y, ρ.N l = some y ∧ F y) (s : SM m z0 c k a b ρ) (hT : (eM ans)[q]? = some ⟨[(0, ans)], 1, hM l z, 10, [], 0⟩) (hl : l = 1 ∨ l = 9) (hown : ∀ l ∈ oM z0, lk σ.N l = some l) (nn : ∀ ρ' : Env, ∀ l ∈ oM z0, (σ.app ρ').N l = ρ'.N l)
    (h : ∀ ρ', SM m z0 c k a b ρ' → GL.at ρ' → (σ.app ρ').I 20 = r.1.1 ∧ (σ.app ρ').I 21 = r.1.2 ∧ decL ((σ.app ρ').I 7) = r.2.M ∧ decL ((σ.app ρ').I 8) = r.2.S ∧ (z = .row → decL ((σ.app ρ').I 5) = r.2.Q ∧ (σ.app ρ').I 6 = (r.2.Q.length : Int) ∧ 1 ≤ r.2.Q.length) ∧ (z ≠ .row → r.2.Q = [])) :
    MGoodO Try.prog ⟨w, oM z0, GL⟩ 11 (RM w bb F r) (eM ans) [] ρ (.done q [] σ) := by
  refine doneR hT hown fun ρ' hle hG => ⟨hG, c0, fun x w' rr => ?_⟩
  obtain ⟨h20, h21, h7, h8, hrow, hnil⟩ := h ρ' (s.of_le hle) hG
  obtain ⟨y, hy, he⟩ := rr.t 0 ans rfl
  obtain rfl : x = y := Option.some.inj he
  have ea : ans.den (σ.app ρ') = some (ansV r.1) := by simp only [ans, iV, AVal.den, AVal.denL, IT.den, h20, h21, Option.map_some, ansV]
  refine ⟨Option.some.inj (hy.symm.trans ea), mEnd z hl rr.h (fun l hl y hy => ?_) ?_ h7 h8 hrow hnil⟩
  · obtain ⟨y0, hy0, hF⟩ := ho l hl
    rw [nn ρ' l hl, hle.n _ _ hy0] at hy
    cases hy; exact hF
  · rw [nn ρ' 0 (by cases z0 <;> simp [oM])]; exact hle.n _ _ hb
theorem csQ_ok (s : SM m z0 c k a b ρ) : CRel ρ (csQ z0) := by
  cases z0 with
  | nil => exact c0
  | zero => exact c0
  | row =>
    obtain ⟨_, h6, h1⟩ := s.r rfl
    have := s.le
    exact c1 (geqT (varD h6) (litD 1) (by omega)) (c1 (leqT (varD h6) (litD 1000) (by omega)) (c1 (leqT (varD h6) (litD 1000000) (by omega)) c0))
theorem noTs {w : World} : CallOk Try.prog ⟨w, oM z0, GL⟩ spM := spL_ok fun p hp => by
  simp only [List.mem_cons, List.not_mem_nil, or_false] at hp
  rcases hp with rfl | rfl
  · exact spA_ok right27
  · exact spLeft_ok
variable {n : Nat}
/-- One way of Apply. -/
theorem go1 {f : Cs} {l : LM} {r : (Int × Int) × Mod} (hrun : RunM z0 n f l) (hr : HRel ⟨w, oM z0, GL⟩ ρ (ofP (hM 1 z0)) 10 w) (s : SM m z0 (n : Int) k a b ρ) (hb : ρ.N 0 = some bb) (hR : rgt (n : Int) k a b = true) (hf : CRel ρ f) (hl : MGoodO Try.prog ⟨w, oM z0, GL⟩ 11 (RM w bb F r) (eM ans) [] ρ l) :
    Calls Try.prog 11 #[.pointer (some ⟨bb, 0, none⟩), .agg #[.int .i64 (n : Int), .int .i64 k, .int .i64 a, .int .i64 b]] w (fun e w' => ∃ v, e = .returned v ∧ RM w bb F r v w') := by
  have hx : AVal.denL ρ [me, opM n] = some [.pointer (some ⟨bb, 0, none⟩), .agg #[.int .i64 (n : Int), .int .i64 k, .int .i64 a, .int .i64 b]] := denL2 (by simp only [me, AVal.den, hb]; rfl) (by
    simp only [opM, iV, AVal.den, AVal.denL, IT.den, s.i31, s.i32, s.i33, Option.map_some]; rfl)
  have hfR : CRel ρ (fR n true) := c1 (by rw [rgt_den (litD (ρ := ρ) (Int.ofNat n)) (varD s.i31) (varD s.i32) (varD s.i33)]; exact congrArg some hR) c0
  exact calls_sumsE (β := ⟨w, oM z0, GL⟩) (R := RM w bb F r) (g := gM) (L := oM z0) (Rs := eM ans) (Ts := []) (pl := true) noCount noExt noTs follows Try.func11 rfl hrun hx hr (CRel_app.2 ⟨CRel_app.2 ⟨hfR, hf⟩, csQ_ok s⟩) (one hl)
theorem tplA (z : Bq) : (eM ans)[qz z]? = some ⟨[(0, ans)], 1, hM 1 z, 10, [], 0⟩ := by cases z <;> rfl
theorem ownA (z : Bq) (tk tv tm ts : IT) : ∀ l ∈ oM z, lk (sgM z tk tv tm ts).N l = some l := fun l hl => by
  cases z <;> simp only [oM, List.mem_cons, List.not_mem_nil, or_false] at hl
  · rcases hl with rfl | rfl | rfl <;> rfl
  · rcases hl with rfl | rfl | rfl <;> rfl
  · rcases hl with rfl | rfl | rfl | rfl <;> rfl
theorem nnA (z : Bq) (tk tv tm ts : IT) : ∀ ρ' : Env, ∀ l ∈ oM z, ((sgM z tk tv tm ts).app ρ').N l = ρ'.N l := fun ρ' l hl => by
  cases z <;> simp only [oM, List.mem_cons, List.not_mem_nil, or_false] at hl
  · rcases hl with rfl | rfl | rfl <;> rfl
  · rcases hl with rfl | rfl | rfl <;> rfl
  · rcases hl with rfl | rfl | rfl | rfl <;> rfl
/-- An end at which the queue is as it was. -/
theorem endD {tk tv tm ts : IT} {x y : Int} {M' S' : List Int} (hb : ρ.N 0 = some bb) (ho : ∀ l ∈ oM z0, ∃ y, ρ.N l = some y ∧ F y) (s : SM m z0 c k a b ρ) (h : ∀ ρ', SM m z0 c k a b ρ' → GL.at ρ' → tk.den ρ' = some x ∧ tv.den ρ' = some y ∧ tm.den ρ' = some (encL M') ∧ ts.den ρ' = some (encL S')) :
    MGoodO Try.prog ⟨w, oM z0, GL⟩ 11 (RM w bb F ((x, y), ⟨m.Q, M', S'⟩)) (eM ans) [] ρ (.done (qz z0) [] (sgM z0 tk tv tm ts)) := by
  refine endA hb ho s (tplA z0) (.inl rfl) (ownA z0 tk tv tm ts) (nnA z0 tk tv tm ts) fun ρ' s' hG => ?_
  obtain ⟨h1, h2, h3, h4⟩ := h ρ' s' hG
  refine ⟨sbI (t := tk) (by cases z0 <;> rfl) h1, sbI (t := tv) (by cases z0 <;> rfl) h2, ?_, ?_, fun e => ?_, s'.n⟩
  · rw [sbI (t := tm) (by cases z0 <;> rfl) h3, decL_encL]
  · rw [sbI (t := ts) (by cases z0 <;> rfl) h4, decL_encL]
  · subst e
    obtain ⟨h5, h6, h1⟩ := s'.r rfl
    refine ⟨?_, ?_, h1⟩
    · rw [sbI (t := .var 5) rfl (varD h5), decL_encL]
    · exact sbI (t := .var 6) rfl (varD h6)
theorem goD {f : Cs} {tk tv tm ts : IT} {x y : Int} {M' S' : List Int} (hrun : D z0 n f tk tv tm ts) (hr : HRel ⟨w, oM z0, GL⟩ ρ (ofP (hM 1 z0)) 10 w) (s : SM m z0 (n : Int) k a b ρ) (hb : ρ.N 0 = some bb) (ho : ∀ l ∈ oM z0, ∃ y, ρ.N l = some y ∧ F y) (hR : rgt (n : Int) k a b = true) (hf : CRel ρ f)
    (h : ∀ ρ', SM m z0 (n : Int) k a b ρ' → tk.den ρ' = some x ∧ tv.den ρ' = some y ∧ tm.den ρ' = some (encL M') ∧ ts.den ρ' = some (encL S')) {r : (Int × Int) × Mod} (he : r = ((x, y), ⟨m.Q, M', S'⟩)) :
    Calls Try.prog 11 #[.pointer (some ⟨bb, 0, none⟩), .agg #[.int .i64 (n : Int), .int .i64 k, .int .i64 a, .int .i64 b]] w (fun e w' => ∃ v, e = .returned v ∧ RM w bb F r v w') := by
  subst he
  exact go1 hrun hr s hb hR hf (endD hb ho s fun ρ' s' _ => h ρ' s')
-- WHAT TERMS SAY
section
variable (s : SM m z0 c k a b ρ)
include s
theorem k7 : m7.den ρ = some (encL m.M) := varD s.i7
theorem k8 : s8.den ρ = some (encL m.S) := varD s.i8
theorem f7 {h : Bool} (e : (mGet m.M k).isSome = h) : CRel ρ (fHas m7 h) := c1 (has_den (k7 s) (varD s.i31) e) c0
theorem f8 {h : Bool} (e : (mGet m.S k).isSome = h) : CRel ρ (fHas s8 h) := c1 (has_den (k8 s) (varD s.i31) e) c0
theorem v7 : (vOf m7).den ρ = some ((mGet m.M k).getD 0) := un5_den (k7 s) (varD s.i31)
theorem v8 : (vOf s8).den ρ = some ((mGet m.S k).getD 0) := un5_den (k8 s) (varD s.i31)
omit s in
theorem put_den {t u v : IT} {L : List Int} {x y : Int} (h : t.den ρ = some (encL L)) (hu : u.den ρ = some x) (hv : v.den ρ = some y) : (IT.un 7 t (.un 1 u v)).den ρ = some (encL (mPut L x y)) := by
  rw [unD h (unD hu hv)]
  show some (encL (mPut (decL (encL L)) ((decL (encL [x, y])).getD 0 0) ((decL (encL [x, y])).getD 1 0))) = _
  rw [decL_encL, decL_encL]; rfl
omit s in
theorem del_den {t u : IT} {L : List Int} {x : Int} (h : t.den ρ = some (encL L)) (hu : u.den ρ = some x) : (IT.un 8 t u).den ρ = some (encL (mDel L x)) := by
  rw [unD h hu]
  show some (encL (mDel (decL (encL L)) x)) = _
  rw [decL_encL]
theorem p7 {t : IT} {x : Int} (h : t.den ρ = some x) : (putM m7 t).den ρ = some (encL (mPut m.M k x)) := put_den (k7 s) (varD s.i31) h
theorem p8 {t : IT} {x : Int} (h : t.den ρ = some x) : (putM s8 t).den ρ = some (encL (mPut m.S k x)) := put_den (k8 s) (varD s.i31) h
theorem b8 (d : Int) : (by1 d).den ρ = some (IntKind.i64.wrap ((mGet m.S k).getD 0 + d)) := by
  unfold by1
  rw [binD (v8 s) (litD d)]; rfl
end
theorem kO (h : Bool) : (kOf h).den ρ = some (cond h 0 1) := by cases h <;> rfl
theorem had1 (o : Option Int) : (had o).1 = cond o.isSome 0 1 := by cases o <;> rfl
theorem had2 (o : Option Int) : (had o).2 = cond o.isSome (o.getD 0) 0 := by cases o <;> rfl
theorem hO {t : IT} {o : Option Int} (h : (vOf t).den ρ = some (o.getD 0)) {h0 : Bool} (e : o.isSome = h0) : (hOf t h0).den ρ = some (had o).2 := by
  rw [had2, e]
  cases h0
  · rfl
  · exact h
end
end Lm
end Go.Proofs.Ytpgonpjakllnjaa
