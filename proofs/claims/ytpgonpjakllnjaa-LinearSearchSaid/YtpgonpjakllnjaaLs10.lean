/-
  LinearSearch (10): the ways of 'on', and what its ends come to.
-/
import Derived.Test.YtpgonpjakllnjaaLs9
namespace Go.Proofs.Ytpgonpjakllnjaa
open Go.Vm Go.Vm.Md Lm Lt
namespace Ls

def tsOn : List Tpl := [TOn true, TOn false]
noncomputable def L21 : Code := lb Try.f21 0
noncomputable def Q21 : List Item := lq Try.f21 0
noncomputable def RO (z : Bool) (c : Cs) (l : LM) : Prop := (run Try.prog [] (spZ z) 4000 true 21 ((⟨(TOn z).tm, (TOn z).nt, (TOn z).H, (TOn z).nl, c ++ (TOn z).cs, (TOn z).dep⟩ : Tpl).st (.code L21 :: .inLoop L21 :: Q21))).map (·.filterMap (sumMD gM [2, 3] rsOn tsOn)) = some [l]
def aOn : List AVal := [.ptr 2 (.lit 0), .ptr 12 (.lit 0)]
noncomputable def RI (z : Bool) (c : Cs) (l : LM) : Prop := (run Try.prog [] (spZ z) 4000 true 21 (entry Try.f21 (Try.f21.body.getD .ret) aOn (ofP (hOn z)) 300 c)).map (·.filterMap (sumMD gM [2, 3] rsOn tsOn)) = some [l]
def n5m : Bool → List (Nat × Nat)
  | true => [(5, 5), (10, 10), (4, 4), (11, 11)]
  | false => [(4, 4), (11, 11)]
/-- On at the same order. -/
def sOn (z : Bool) (t : IT) : Sub := ⟨(9, t) :: iN z, [], [], [], [(2, 2), (3, 3), (12, 12), (4, 4), (11, 11), (0, 0), (1, 1)] ++ (match z with
  | true => [(5, 5), (10, 10)]
  | false => [])⟩
/-- On behind a recursion. -/
def sRe (z : Bool) : Sub := ⟨[(9, up9), (20, lesT), (21, cO0 z)], [], [], [], [(2, 2), (3, 3), (12, 12), (4, 4), (11, 11), (0, 0), (1, 1), (5, 312), (10, 310)]⟩
def sYes : Sub := ⟨[(20, .fn 84 at9 (.lit 0)), (21, .fn 83 at9 (.lit 0))], [], [], [], [(2, 2), (3, 3), (0, 0), (1, 1), (5, 312), (10, 310), (13, 311)]⟩
def sAs (z : Bool) : Sub := ⟨iN z, [], [], [], [(2, 2), (3, 3), (0, 0), (1, 1)] ++ n5m z⟩
def qT : Bool → Nat
  | true => 0
  | false => 1
def qA (z b : Bool) : Nat := match z, b with
  | true, true => 1
  | true, false => 2
  | false, true => 3
  | false, false => 4
def fr21 (b : Bool) : Cs := [q9 .lss at9 (.var 67) true] ++ (Lt.inL vL ++ [q9 .geq (.fn 86 vL (.lit 0)) (.lit 0) b])
def opL : IT := opT (rT vL 2) (rT vL 3) (rT vL 4) (rT vL 5)
def alL : BT := .not (.and (.cmp .eql (.fn 70 (.var 68) opL) (rT vL 9)) (.cmp .eql (.fn 71 (.var 68) opL) (rT vL 10)))
def opn : Cs := [q9 .geq (rT vL 8) (.lit 0) false]
def cls (b : Bool) : Cs := [q9 .geq (rT vL 8) (.lit 0) true, (alL, b)]
theorem o_done (z : Bool) : RI z (csT z ++ [q9 .geq (.var 70) (.lit 0) false]) (.done (qA z true) [] (sAs z)) := by unfold RI; cases z <;> kernel_rfl
theorem o_in (z : Bool) : RI z (csT z ++ [q9 .geq (.var 70) (.lit 0) true]) (.next (qT z) (.code (.loop L21) :: Q21) [] (sOn z (.lit 0))) := by unfold RI; cases z <;> kernel_rfl
theorem o_end (z : Bool) : RO z [q9 .lss at9 (.var 67) false] (.done (qA z false) [] (sAs z)) := by unfold RO; cases z <;> kernel_rfl
theorem o_not (z : Bool) : RO z (fr21 true) (.next (qT z) (.inLoop L21 :: Q21) [] (sOn z up9)) := by unfold RO; cases z <;> kernel_rfl
theorem o_un (z : Bool) : RO z (fr21 false ++ cls true) (.next (qT z) (.inLoop L21 :: Q21) [] (sOn z up9)) := by unfold RO; cases z <;> kernel_rfl
theorem o_on (z : Bool) : RO z (fr21 false ++ (opn ++ [(onT, true)])) (.done 0 [] sYes) := by unfold RO; cases z <;> kernel_rfl
theorem o_oc (z : Bool) : RO z (fr21 false ++ (cls false ++ [(onT, true)])) (.done 0 [] sYes) := by unfold RO; cases z <;> kernel_rfl
theorem o_no (z : Bool) : RO z (fr21 false ++ (opn ++ [(onT, false)])) (.next 0 (.inLoop L21 :: Q21) [] (sRe z)) := by unfold RO; cases z <;> kernel_rfl
theorem o_nc (z : Bool) : RO z (fr21 false ++ (cls false ++ [(onT, false)])) (.next 0 (.inLoop L21 :: Q21) [] (sRe z)) := by unfold RO; cases z <;> kernel_rfl
-- THE ENDS
section
variable {w w' : World} {G : GP} {ρ : Env} {H : Heap} {nl bs : Nat} {oA : Option Nat}
theorem ordEnd {L : List Int} {k2 : HB} (hr : HRel ⟨w, [2, 3], G⟩ ρ H nl w') (h5 : H.get 5 = some (orB 10 (.var 21) (.var 20))) (h2 : H.get 2 = some k2) (n2 : ρ.N 2 = some bs) (n3 : ρ.N 3 = some (oA.getD bs)) (i20 : ρ.I 20 = (L.length : Int)) (i21 : ρ.I 21 = encL L) :
    ∃ a cap, RowIn w' a cap L ∧ (oA = some a ∨ w.heap.size ≤ a) ∧ (ov true).den ρ = some (.slice (some ⟨a, 0, none⟩) L.length cap) := by
  obtain ⟨a, o, hN, ho, ys, c, fr, el, m, b0, rfl, hel, hd, hoff, ⟨_, hp⟩, _, _, ⟨cap, hcap, hroom⟩, hf⟩ := hr.blk _ _ h5
  obtain rfl := hel rfl
  obtain rfl : b0 = 0 := by have := Option.some.inj hoff; exact (Int.ofNat.inj this).symm
  have e21 : (IT.var 21).den ρ = some (encL L) := varD i21
  have e : (AT.code [.i64] (.var 21)).den ρ = some (rowOf [.i64] L) := by simp only [AT.den, e21, Option.map_some, decL_encL]
  obtain rfl : ys = _ := Option.some.inj (hd.symm.trans e)
  rw [List.drop_zero, rowOf1] at hp
  have hab : a ≠ bs := fun he => by
    have := hr.inj 5 2 _ _ h5 h2 rfl (by rw [hN, n2, he])
    cases this
  refine ⟨a, cap, ⟨c, fr, ho, hp, by have : c.size - 0 = cap * 1 := hroom; omega, hf rfl⟩, ?_, den_slice_of hN rfl (varD i20) hcap⟩
  rcases hr.own 5 _ a h5 rfl hN with h1 | ⟨l', hl', hb'⟩
  · exact .inr h1
  · simp only [List.mem_cons, List.not_mem_nil, or_false] at hl'
    rcases hl' with rfl | rfl
    · rw [n2] at hb'; exact absurd (Option.some.inj hb').symm hab
    · rw [n3] at hb'
      cases oA with
      | none => exact absurd (Option.some.inj hb').symm hab
      | some a0 => exact .inl hb'
theorem same21 (hr : HRel ⟨w, [2, 3], G⟩ ρ H nl w') (n2 : ρ.N 2 = some bs) (n3 : ρ.N 3 = some (oA.getD bs)) : ∀ y, y < w.heap.size → y ≠ bs → oA ≠ some y → w'.heap[y]? = w.heap[y]? := fun y hy h1 h2 => hr.frame y hy fun l hl he => by
  simp only [List.mem_cons, List.not_mem_nil, or_false] at hl
  rcases hl with rfl | rfl
  · rw [n2] at he; exact h1 (Option.some.inj he).symm
  · rw [n3] at he
    cases oA with
    | none => exact h1 (Option.some.inj he).symm
    | some a0 => exact h2 he
end
/-- What holds at the head. -/
structure J21 (e : Sd) (bs : Nat) (oA : Option Nat) (v0 v1 vl : Value) (z : Bool) (t : Nat) (ρ : Env) : Prop where
  o : Ord e z ρ
  i9 : ρ.I 9 = (t : Int)
  le : t ≤ e.L.length
  n2 : ρ.N 2 = some bs
  n3 : ρ.N 3 = some (oA.getD bs)
  s0 : (SL .row).den ρ = some v0
  s1 : (SO .row).den ρ = some v1
  sl : lv.den ρ = some vl
  no : firstS e.try_ t = none
theorem J21.of_le {e : Sd} {bs : Nat} {oA : Option Nat} {v0 v1 vl : Value} {z : Bool} {t : Nat} {ρ ρ' : Env} (h : J21 e bs oA v0 v1 vl z t ρ) (g : ρ.Le ρ') : J21 e bs oA v0 v1 vl z t ρ' :=
  ⟨h.o.of_le g, by rw [g.i]; exact h.i9, h.le, g.n _ _ h.n2, g.n _ _ h.n3, AVal.den_mono g _ h.s0, AVal.den_mono g _ h.s1, AVal.den_mono g _ h.sl, h.no⟩
theorem J21.cs {e : Sd} (ok : SOk e) {vm : Value} {bs : Nat} {oA : Option Nat} {v0 v1 vl : Value} {z : Bool} {t : Nat} {ρ : Env} (h : J21 e bs oA v0 v1 vl z t ρ) (hg : (Gs e vm).at ρ) : CRel ρ (TOn z).cs := by
  have hE := dcE ok.d (gsD hg)
  rw [ok.hl, ok.hk] at hE
  exact CRel_app.2 ⟨cs9_ok h.i9 (pLn hg) h.le, CRel_app.2 ⟨CRel_app.2 ⟨hE, n60 _ ok.l (pLn hg)⟩, h.o.cs hg⟩⟩
theorem lv_up {ρ ρ2 : Env} (h4 : ρ2.N 4 = ρ.N 4) (h11 : ρ2.N 11 = ρ.N 11) (h : ∀ i, 30 ≤ i → ρ2.I i = ρ.I i) : lv.den ρ2 = lv.den ρ := by
  simp only [lv, AVal.den, IT.den, h4, h11, h 67 (by omega)]
theorem keep30 {σ : Sub} (hs : (σ.I.all fun p => Nat.blt p.1 30) = true) (ρ : Env) {i : Nat} (hi : 30 ≤ i) : (σ.app ρ).I i = ρ.I i := by
  have : lk σ.I i = none := by
    cases hl : lk σ.I i with
    | none => rfl
    | some t =>
      have h1 := List.all_eq_true.1 hs _ (lk_mem hl)
      rw [Nat.blt_eq] at h1
      simp only at h1; omega
  simp only [Sub.app, this]
end Ls
end Go.Proofs.Ytpgonpjakllnjaa
