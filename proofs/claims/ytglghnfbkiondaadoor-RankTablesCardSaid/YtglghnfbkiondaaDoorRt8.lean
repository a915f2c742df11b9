/-
  RankTables (6): heads and facts of rank.Ops.
-/
import Derived.Test.YtglghnfbkiondaaDoorRt5
section
namespace Go.Proofs.YtglghnfbkiondaaDoor
open Go.Vm Go.Vm.Rk Go.Vm.Mr
namespace Rt
open Rk

def TA : Tpl := ⟨[(3, .map 20), (10, SL .row), (11, .int .i64 (.var 36)), (12, iV 9)], 50, roH (EL .row) ++ [(20, ⟨.big 0 (.var 21), true⟩)], 500, cs9 (.var 36) ++ csL .row, 3⟩
def TB : Tpl := ⟨[(6, .map 26), (38, .map 20), (39, .ptr 24 (.lit 0))], 50, [(20, ⟨.big 3 (rgT 24 (.var 21) (.var 25)), true⟩), (26, ⟨.big 2 (.var 27), true⟩)], 500, [(smallT (.var 21), true)], 3⟩
def tO : List Tpl := [TB, TA]
def eO : List Tpl := [⟨[(0, .map 26)], 1, [(26, ⟨.big 2 (.var 27), true⟩)], 60, [], 0⟩]
def hkA : OpF := orH (hkLook 63) (orH (hkPut 63) (orH (hkMake 63 0) (orH (hkMake 46 2) (hkRange 63))))
def hkB : OpF := orH (hkNext 20) (orH (hkEntry 20) (hkPutR 46 20 504))
def spOA : CallF := spLH [] hkA
def spOB : CallF := spLH [(8, spOf)] hkB
def fH (b : Bool) : Cs := [(hasT (.var 21) (rT at9 2), b)]
def fL : Cs := [(.cmp .leq (.fn 62 (.var 21) (rT at9 2)) (.lit 1000000), true)]
def fW (b : Bool) : Cs := [(allT (.var 21) (.var 25), b)]
/-- A condition that says that a number is there. -/
def isNv : BT × Bool → Bool
  | (.cmp .geq (.nv _) (.lit (.ofNat 0)), true) => true
  | _ => false
def _root_.Go.Vm.LM.kc : LM → LM
  | .done q cs σ => .done q (cs.filter isNv) σ
  | .next q todo cs σ => .next q todo (cs.filter isNv) σ
  | .stop cs => .stop cs
  | .bad => .bad
def sumMK (g : Gen) (L : List Nat) (Rs Ts : List Tpl) (l : Leaf) : Option LM := (sumMO g L Rs Ts l).map LM.kc
end Rt
end Go.Proofs.YtglghnfbkiondaaDoor
end

/-
  RankTables (7): rank.Ops: the map of ranks.
-/
section
namespace Go.Proofs.YtglghnfbkiondaaDoor
open Go.Vm Go.Vm.Rk Go.Vm.Mr
namespace Rt
open Rk

-- ENDS WITH FEW OF THEIR CONDITIONS
section
variable {P : Program} {β : Base} {f : FuncId} {R : Value → World → Prop} {Rs Ts : List Tpl} {ρ : Env}
theorem crel_filter {p : BT × Bool → Bool} {cs : Cs} (h : CRel ρ cs) : CRel ρ (cs.filter p) := fun q hq => h q (List.mem_filter.1 hq).1
theorem of_kc : ∀ {s : LM}, MGoodO P β f R Rs Ts ρ s.kc → MGoodO P β f R Rs Ts ρ s
  | .done _ _ _, h => ⟨h.1, fun ρ' hle hc => h.2 ρ' hle (crel_filter hc)⟩
  | .next _ _ _ _, h => ⟨h.1, fun ρ' hle hc => h.2 ρ' hle (crel_filter hc)⟩
  | .stop _, h => h
  | .bad, h => h
theorem dcsK {g : Gen} {L : List Nat} {ls : List Leaf} {sums : List LM} (h : ls.filterMap (sumMK g L Rs Ts) = sums) (hs : ∀ s ∈ sums, MGoodO P β f R Rs Ts ρ s) : ∀ s ∈ ls.filterMap (sumMO g L Rs Ts), MGoodO P β f R Rs Ts ρ s := by
  intro s hm
  obtain ⟨l, hl, he⟩ := List.mem_filterMap.1 hm
  exact of_kc (hs _ (h ▸ List.mem_filterMap.2 ⟨l, hl, by simp only [sumMK, he, Option.map_some]⟩))
theorem loop_goesKc (hc : NoCount P) {E : Exts} (hE : ExtOk P E) {sp : CallF} (hsp : CallOk P β sp) (hm : P.follows .mixedOrders = true) {g : Gen} {L : List Nat} {pl : PL} {T : Tpl} {b : Code} {k : List Item} {n : Nat} (J : Env → Prop) (μ : Env → Nat)
    (hs : ∀ ρ, J ρ → (∃ w, HRel β ρ (ofP T.H) T.nl w) → CRel ρ T.cs → GP.at β.G ρ → (∀ ρ', μ ρ' < μ ρ → J ρ' → ∀ todo a w, todo = .inLoop b :: k ∨ todo = .code (.loop b) :: k → SRel β ρ' (T.st todo) a w → Goes P f R todo a w) →
      ∃ cs' sums, CRel ρ cs' ∧ (run P E sp n pl f ((⟨T.tm, T.nt, T.H, T.nl, cs', T.dep⟩ : Tpl).st (.code b :: .inLoop b :: k))).map (·.filterMap (sumMK g L Rs Ts)) = some sums ∧ ∀ s ∈ sums, MGoodO P β f R Rs Ts ρ s) :
    ∀ ρ, J ρ → ∀ todo a w, todo = .inLoop b :: k ∨ todo = .code (.loop b) :: k → SRel β ρ (T.st todo) a w → Goes P f R todo a w := by
  suffices H : ∀ N ρ, μ ρ = N → J ρ → ∀ todo a w, todo = .inLoop b :: k ∨ todo = .code (.loop b) :: k → SRel β ρ (T.st todo) a w → Goes P f R todo a w from fun ρ => H _ ρ rfl
  intro N
  induction N using Nat.strongRecOn with
  | _ N ih =>
    intro ρ hN hJ todo a w htd r
    obtain ⟨cs', sums, hcs', hrun, hss⟩ := hs ρ hJ ⟨w, r.h⟩ r.c r.h.g fun ρ' hlt hJ' todo' a' w' ht' r' => ih (μ ρ') (by omega) ρ' rfl hJ' todo' a' w' ht' r'
    obtain ⟨ls, hls, hsum⟩ := Option.map_eq_some_iff.1 hrun
    have key : Goes P f R (.code b :: .inLoop b :: k) a w := run_sound hc hE hsp hm n pl f _ ls ρ a w _ hls ⟨r.d, r.n, r.t, r.h, hcs'⟩ (m_allO (g := g) (L := L) (sums := ls.filterMap (sumMO g L Rs Ts)) rfl (dcsK hsum hss))
    rcases htd with rfl | rfl
    · exact Goes.one (fun cs => step_inLoop) key
    · exact Goes.one (fun cs => step_loop) key
theorem nextK {q : Nat} {todo : List Item} {cs : Cs} {σ : Sub} {T : Tpl} (hT : Ts[q]? = some T) (hown : ∀ l ∈ β.own, lk σ.N l = some l) (h : ∀ ρ', ρ.Le ρ' → CRel ρ' cs → GP.at β.G ρ' → GP.at β.G (σ.app ρ') ∧ CRel (σ.app ρ') T.cs ∧ ∀ a w, SRel β (σ.app ρ') (T.st todo) a w → Goes P f R todo a w) : MGoodO P β f R Rs Ts ρ (.next q todo cs σ) :=
  ⟨hown, fun ρ' hle hc T' hT' hG => by obtain rfl := Option.some.inj (hT.symm.trans hT'); exact h ρ' hle hc hG⟩
/-- The blocks of a big object that may be written are new. -/
theorem bigFresh {H : Heap} {nl : Nat} {w : World} (h : HRel β ρ H nl w) {l k : Nat} {c : IT} (hl : H.get l = some ⟨.big k c, true⟩) : ∃ b x F, ρ.N l = some b ∧ c.den ρ = some x ∧ fam k x w b F ∧ ∀ y, F y → β.w0.heap.size ≤ y := by
  obtain ⟨Fp, hB⟩ := h.big
  obtain ⟨b, x, hN, hx, hf, h0⟩ := hB.ok _ _ _ _ hl
  exact ⟨b, x, Fp l, hN, hx, hf, h0 rfl⟩
end
-- PLAIN
/-- What has been put, key by key. -/
def outE (es : Es) (seen : List Int) : Es := seen.foldl (fun o k => putE o k (rank6 ((getE es k).getD []))) []
theorem outE_snoc (es : Es) (seen : List Int) (k : Int) : outE es (seen ++ [k]) = putE (outE es seen) k (rank6 ((getE es k).getD [])) := by
  unfold outE
  rw [List.foldl_append]; rfl
theorem outE_eq (es : Es) (seen : List Int) (h : seen.Nodup) : outE es seen = seen.map fun k => (k, rank6 ((getE es k).getD [])) := by
  obtain ⟨r, rfl⟩ : ∃ r, seen = List.reverse r := ⟨seen.reverse, (List.reverse_reverse _).symm⟩
  induction r with
  | nil => rfl
  | cons k r ih =>
    rw [List.reverse_cons] at h ⊢
    obtain ⟨h1, _, h3⟩ := List.nodup_append.1 h
    rw [outE_snoc, ih h1, List.map_append]
    refine putE_new ?_
    cases hg : getE ((r.reverse).map fun k => (k, rank6 ((getE es k).getD []))) k with
    | none => rfl
    | some L =>
      obtain ⟨a, ha, he⟩ := List.mem_map.1 (getE_mem hg)
      have : a = k := (Prod.mk.inj he).1
      exact absurd rfl (h3 k (this ▸ ha) k List.mem_cons_self)
theorem outE_perm {es : Es} (hn : (es.map (·.1)).Nodup) {seen : List Int} (h : seen.Nodup) (hk : ∀ k ∈ seen, ∃ p ∈ es, p.1 = k) (ha : ∀ p ∈ es, p.1 ∈ seen) : (outE es seen).Perm (es.map fun p => (p.1, rank6 p.2)) := by
  rw [outE_eq es seen h]
  have hp : seen.Perm (es.map (·.1)) := (List.perm_ext_iff_of_nodup h hn).2 fun k => ⟨fun hm => by
    obtain ⟨p, hp, he⟩ := hk k hm
    exact List.mem_map.2 ⟨p, hp, he⟩, fun hm => by
    obtain ⟨p, hp, he⟩ := List.mem_map.1 hm
    exact he ▸ ha p hp⟩
  refine (hp.map _).trans (List.Perm.of_eq ?_)
  rw [List.map_map]
  refine List.map_congr_left fun p hp => ?_
  obtain ⟨a, L⟩ := p
  have : getE es a = some L := (getE_iff hn).2 hp
  simp only [Function.comp, this, Option.getD_some]
theorem nd_le : ∀ {l m : List Int}, l.Nodup → (∀ x ∈ l, x ∈ m) → l.length ≤ m.length
  | [], _, _, _ => Nat.zero_le _
  | a :: r, m, h, hs => by
    obtain ⟨h1, h2⟩ := List.nodup_cons.1 h
    have ha : a ∈ m := hs a List.mem_cons_self
    have := nd_le (m := m.erase a) h2 fun x hx => (List.mem_erase_of_ne fun (e : x = a) => h1 (e ▸ hx)).2 (hs x (List.mem_cons_of_mem _ hx))
    rw [List.length_erase_of_mem ha] at this
    have := List.length_pos_of_mem ha
    simp only [List.length_cons]; omega
theorem seen_le {es : Es} {seen : List Int} (h : seen.Nodup) (hk : ∀ k ∈ seen, ∃ p ∈ es, p.1 = k) : seen.length ≤ es.length := by
  have := nd_le (m := es.map (·.1)) h fun k hm => by
    obtain ⟨p, hp, he⟩ := hk k hm
    exact List.mem_map.2 ⟨p, hp, he⟩
  rwa [List.length_map] at this
-- WHAT HOLDS
structure JA (d : Dt) (i : Nat) (ρ : Env) : Prop where
  i9 : ρ.I 9 = (i : Int)
  le : i ≤ d.n
  i21 : ρ.I 21 = codeE (d.rows i)
theorem JA.of_le {d : Dt} {i : Nat} {ρ ρ' : Env} (h : JA d i ρ) (g : ρ.Le ρ') : JA d i ρ' := ⟨by rw [g.i]; exact h.i9, h.le, by rw [g.i]; exact h.i21⟩
structure JB (d : Dt) (seen : List Int) (ρ : Env) : Prop where
  i21 : ρ.I 21 = codeE (d.rows d.n)
  i25 : ρ.I 25 = encL seen
  i27 : ρ.I 27 = codeE (outE (d.rows d.n) seen)
theorem JB.of_le {d : Dt} {s : List Int} {ρ ρ' : Env} (h : JB d s ρ) (g : ρ.Le ρ') : JB d s ρ' := ⟨by rw [g.i]; exact h.i21, by rw [g.i]; exact h.i25, by rw [g.i]; exact h.i27⟩
def R17 (d : Dt) (w : World) : Value → World → Prop := fun v w' => ∃ b F, v = .map (some b) ∧ fam 5 (codeE d.ents) w' b F ∧ (∀ y, F y → w.heap.size ≤ y) ∧ Framed w w'
theorem spOA_ok {d : Dt} {w : World} : CallOk Tryd.prog ⟨w, [], Gd d⟩ spOA := by
  have hG : ∀ I B S V F, Gd d I B S V F → GMr I B S V F := fun _ _ _ _ _ h => h.2.2.2.2.2.1.1
  exact spLH_ok (fun _ h => by cases h) (orH_ok (hkLook_ok Tryd.underlying63 Tryd.underlying3 (by kernel_rfl) hG) (orH_ok (hkPut_ok Tryd.underlying63 Tryd.underlying3 rfl hG) (orH_ok (hkMake_ok (.inl rfl)) (orH_ok (hkMake_ok (.inr rfl)) (hkRange_ok Tryd.underlying63)))))
theorem spOB_ok {d : Dt} {w : World} : CallOk Tryd.prog ⟨w, [], Gd d⟩ spOB := by
  have hG : ∀ I B S V F, Gd d I B S V F → GMr I B S V F ∧ GRg I B S V F := fun _ _ _ _ _ h => h.2.2.2.2.2.1
  have hG2 : ∀ I B S V F, Gd d I B S V F → (GMr I B S V F ∧ GRg I B S V F) ∧ F 73 = fSmall := fun _ _ _ _ _ h => ⟨h.2.2.2.2.2.1, h.2.2.2.2.2.2.2⟩
  have hG3 : ∀ I B S V F, Gd d I B S V F → GMr I B S V F ∧ F 66 = fPut := fun _ _ _ _ _ h => ⟨h.2.2.2.2.2.1.1, h.2.2.2.2.2.2.1⟩
  refine spLH_ok (fun p hp => ?_) (orH_ok (hkNext_ok hG 20) (orH_ok (hkEntry_ok hG2 20) (hkPutR_ok Tryd.underlying46 Tryd.underlying3 rfl hG3 20 504)))
  rw [List.mem_singleton.1 hp]
  exact spOf_ok fun _ _ _ _ _ h => h.2.1
-- THE RUNS
def kB : IT := .fn 65 (.var 21) (.nv 500)
def rB : IT := .fn 61 (.var 21) kB
def a1 : Sub := ⟨[(9, .lit 0), (21, .lit 0)], [], [], [], [(20, 500), (0, 0)]⟩
def a2 : Sub := ⟨[(9, up9), (21, .var 21)], [], [], [], [(20, 20), (0, 0)]⟩
def a3 : Sub := ⟨[(9, up9), (21, .fn 63 (.var 21) (.un 1 (rT at9 2) (rT at9 12)))], [], [], [], [(20, 20), (0, 0)]⟩
def a4 : Sub := ⟨[(21, .var 21), (25, .lit 0), (27, .lit 0)], [], [], [], [(26, 500), (20, 20), (24, 501)]⟩
def b1 : Sub := ⟨[(21, .var 21), (25, .un 3 (.var 25) kB), (27, .fn 66 (.var 27) (pack6 kB (.fn 62 (.var 21) kB) (fnT 41 rB) (fnT 42 rB) (fnT 43 rB) (fnT 44 rB) (fnT 45 rB)))], [], [], [], [(26, 26), (20, 20), (24, 24)]⟩
def b2 : Sub := ⟨[(27, .var 27)], [], [], [], [(26, 26)]⟩
noncomputable def RKc (sp : CallF) (j : Nat) (T : Tpl) (c : Cs) (l : List LM) : Prop := (run Tryd.prog [] sp 4000 true 17 ((⟨T.tm, T.nt, T.H, T.nl, c ++ T.cs, T.dep⟩ : Tpl).st (.code (lb Tryd.f17 j) :: .inLoop (lb Tryd.f17 j) :: lq Tryd.f17 j))).map (·.filterMap (sumMK gM [] eO tO)) = some l
noncomputable def nA (σ : Sub) : List LM := [.next 1 (.inLoop (lb Tryd.f17 0) :: lq Tryd.f17 0) [] σ]
theorem o17_in : RCM spOA 17 Tryd.f17 eO tO [SL .row] (ofP (roH (EL .row))) (csL .row) [.next 1 (.code (.loop (lb Tryd.f17 0)) :: lq Tryd.f17 0) [] a1] := by unfold RCM; kernel_rfl
theorem o17_n : ∀ c ∈ wyN (.lit 2), RHM spOA 17 Tryd.f17 0 eO tO TA (lt9 (.var 36) true ++ c) (nA a2) := by
  intro c hc
  simp only [wyN, List.mem_cons, List.not_mem_nil, or_false] at hc
  rcases hc with rfl | rfl | rfl | rfl
  all_goals (unfold RHM; kernel_rfl)
theorem o17_h : RHM spOA 17 Tryd.f17 0 eO tO TA (lt9 (.var 36) true ++ (wyG (.lit 2) ++ (fH true ++ fL))) (nA a3) := by unfold RHM; kernel_rfl
theorem o17_m : RHM spOA 17 Tryd.f17 0 eO tO TA (lt9 (.var 36) true ++ (wyG (.lit 2) ++ fH false)) (nA a3) := by unfold RHM; kernel_rfl
theorem o17_e : RHM spOA 17 Tryd.f17 0 eO tO TA (lt9 (.var 36) false ++ [(smallT (.var 21), true)]) [.next 0 (.code (.loop (lb Tryd.f17 1)) :: lq Tryd.f17 1) [] a4] := by unfold RHM; kernel_rfl
theorem o17_b : RKc spOB 1 TB (fW false) [.next 0 (.inLoop (lb Tryd.f17 1) :: lq Tryd.f17 1) [(.cmp .geq (.nv 500) (.lit 0), true)] b1] := by unfold RKc; kernel_rfl
theorem o17_be : RKc spOB 1 TB (fW true) [.done 0 [] b2] := by unfold RKc; kernel_rfl
end Rt
end Go.Proofs.YtglghnfbkiondaaDoor
end

/-
  RankTables (8): rank.Ops hands out the ranks of the operations.
-/
section
namespace Go.Proofs.YtglghnfbkiondaaDoor
open Go.Vm Go.Vm.Rk Go.Vm.Mr
namespace Rt
open Rk

section
variable {d : Dt}
theorem takes2 {i : Nat} : d.takes 2 (-1) i = true ↔ (d.c i 1 = 2 ∧ d.good i = true) := by
  unfold Dt.takes
  simp
theorem rows_n (ok : DOk d) : ∀ p ∈ d.rows d.n, p.2 ≠ [] ∧ p.2.length ≤ 100 := fun p hp => by
  obtain ⟨h1, h2, _⟩ := d.rows_all (fun _ => True) (fun _ => True) d.n (fun _ _ _ => ⟨trivial, trivial⟩) p hp
  have := ok.n100
  exact ⟨h1, by omega⟩
theorem small_ok (ok : DOk d) {ρ : Env} (hG : (Gd d).at ρ) (h21 : ρ.I 21 = codeE (d.rows d.n)) : CRel ρ [(smallT (.var 21), true)] := by
  have e1 : (IT.fn 73 (.var 21) (.lit 0)).den ρ = some (fSmall (codeE (d.rows d.n)) 0) := by
    rw [fnD (varD h21) (litD 0), hG.2.2.2.2.2.2.2]
  have : fSmall (codeE (d.rows d.n)) 0 = 1 := by
    unfold fSmall
    rw [esOf_code, if_pos]
    refine List.all_eq_true.2 fun p hp => ?_
    obtain ⟨h1, h2⟩ := rows_n ok p hp
    have := List.length_pos_iff.2 h1
    simp only [Bool.and_eq_true, Nat.ble_eq]; omega
  exact c1 (eqlT e1 (litD 1) this) c0
theorem kz_den {ρ : Env} (hG : (Gd d).at ρ) {es : Es} (h21 : ρ.I 21 = codeE es) {i : Nat} (hN : ρ.N 500 = some i) : kB.den ρ = some (fKey (codeE es) i) := by
  unfold kB
  rw [fnD (varD h21) (nvD hN), hG.2.2.2.2.2.1.2.2]
theorem out_den {ρ : Env} (hG : (Gd d).at ρ) {es o : Es} (h21 : ρ.I 21 = codeE es) (h27 : ρ.I 27 = codeE o) {k : Int} (hk : kB.den ρ = some k) :
    (IT.fn 66 (.var 27) (pack6 kB (.fn 62 (.var 21) kB) (fnT 41 rB) (fnT 42 rB) (fnT 43 rB) (fnT 44 rB) (fnT 45 rB))).den ρ = some (codeE (putE o k (rank6 ((getE es k).getD [])))) := by
  obtain ⟨_, g40, g77, g78, gS, gM, g66, g73⟩ := hG
  obtain ⟨⟨g60, g61, g62, g63⟩, g64, g65⟩ := gM
  obtain ⟨_, g41, g42, g43, g44, g45, _⟩ := g40
  have er : rB.den ρ = some (encL ((getE es k).getD [])) := by
    unfold rB
    rw [fnD (varD h21) hk, g61]
    simp only [fRow, esOf_code]
  have e62 : (IT.fn 62 (.var 21) kB).den ρ = some ((((getE es k).getD []).length : Nat) : Int) := by
    rw [fnD (varD h21) hk, g62]
    simp only [fLen, esOf_code]
  have e1 : (fnT 41 rB).den ρ = some (least ((getE es k).getD [])) := by rw [fnT, fnD er (litD 0), g41]; simp only [decL_encL]
  have e2 : (fnT 42 rB).den ρ = some (most ((getE es k).getD [])) := by rw [fnT, fnD er (litD 0), g42]; simp only [decL_encL]
  have e3 : (fnT 43 rB).den ρ = some (sumW ((getE es k).getD []) ((getE es k).getD []).length) := by rw [fnT, fnD er (litD 0), g43]; simp only [decL_encL]
  have e4 : (fnT 44 rB).den ρ = some (mid ((getE es k).getD [])) := by rw [fnT, fnD er (litD 0), g44]; simp only [decL_encL]
  have e5 : (fnT 45 rB).den ρ = some (late ((getE es k).getD [])) := by rw [fnT, fnD er (litD 0), g45]; simp only [decL_encL]
  have ep : (pack6 kB (.fn 62 (.var 21) kB) (fnT 41 rB) (fnT 42 rB) (fnT 43 rB) (fnT 44 rB) (fnT 45 rB)).den ρ = some (encL (k :: rank6 ((getE es k).getD []))) := by
    unfold pack6
    refine (snoc_den (snoc_den (snoc_den (snoc_den (snoc_den (L := [k, _]) ((unD hk e62).trans rfl) e1) e2) e3) e4) e5).trans ?_
    rfl
  rw [fnD (varD h27) ep, g66]
  simp only [fPut, decL_encL, esOf_code]
theorem loopB (ok : DOk d) (w : World) : ∀ ρ, (∃ s, JB d s ρ) → ∀ todo a w1, todo = .inLoop (lb Tryd.f17 1) :: lq Tryd.f17 1 ∨ todo = .code (.loop (lb Tryd.f17 1)) :: lq Tryd.f17 1 → SRel ⟨w, [], Gd d⟩ ρ (TB.st todo) a w1 → Goes Tryd.prog 17 (R17 d w) todo a w1 :=
  loop_goesKc (P := Tryd.prog) (β := ⟨w, [], Gd d⟩) (f := 17) (R := R17 d w) (Rs := eO) (Ts := tO) (T := TB) (L := []) (n := 4000) (g := gM) (pl := true) noCount noExt spOB_ok follows (fun ρ => ∃ s, JB d s ρ) (fun ρ => (d.rows d.n).length + 1 - (decL (ρ.I 25)).length) fun ρ ⟨s, j⟩ ⟨w1, hh⟩ hcs hG ih => by
    obtain ⟨b, x, F, hN, hx, hf, _⟩ := hh.bigAt (l := 20) (k := 3) (c := rgT 24 (.var 21) (.var 25)) (rw := true) rfl
    have hR : ∃ (bi : Nat) (es : Es) (seen : List Int), x = encL [(bi : Int), codeE es, encL seen] ∧ RangeIn none bi es seen w1 b F := by
      rcases hf with ⟨h, _⟩ | ⟨h, _⟩ | ⟨h, _⟩ | ⟨_, h⟩ | ⟨h, _⟩ | ⟨h, _⟩
      · cases h
      · cases h
      · cases h
      · exact h
      · cases h
      · cases h
    obtain ⟨bi, es, seen, rfl, hR⟩ := hR
    obtain ⟨_, h1, h2⟩ := rgT_inv hx
    obtain rfl : es = d.rows d.n := codeE_inj ((Option.some.inj h1).symm.trans j.i21)
    obtain rfl : seen = s := encL_inj ((Option.some.inj h2).symm.trans j.i25)
    have hle := seen_le hR.once hR.keys
    have e64 : (IT.fn 64 (.var 21) (.var 25)).den ρ = some (fAll (codeE (d.rows d.n)) (encL seen)) := by
      rw [fnD (varD j.i21) (varD j.i25), hG.2.2.2.2.2.1.2.1]
    by_cases hall : ((d.rows d.n).all fun p => seen.contains p.1) = true
    · have ea : fAll (codeE (d.rows d.n)) (encL seen) = 1 := by
        unfold fAll
        rw [esOf_code, decL_encL, if_pos hall]
      refine ⟨fW true ++ TB.cs, _, CRel_app.2 ⟨c1 (eqlT e64 (litD 1) ea) c0, hcs⟩, o17_be, Go.Vm.one (doneR rfl (fun l hl => by cases hl) fun ρ' hle' hG' => ⟨gKeep rfl hG', c0, fun v w' r => ?_⟩)⟩
      obtain ⟨y, hy, he⟩ := r.t 0 _ rfl
      obtain rfl : v = y := Option.some.inj he
      obtain ⟨c2, x2, F2, hN2, hx2, hf2, hfr⟩ := bigFresh r.h (l := 26) (k := 2) (c := .var 27) rfl
      have e27 : x2 = codeE (outE (d.rows d.n) seen) := by
        have : (IT.var 27).den (Rt.b2.app ρ') = some (codeE (outE (d.rows d.n) seen)) := varD (j.of_le hle').i27
        exact Option.some.inj (hx2.symm.trans this)
      have hR2 : ∃ es2, x2 = codeE es2 ∧ RanksIn es2 w' c2 F2 := by
        rcases hf2 with ⟨h, _⟩ | ⟨h, _⟩ | ⟨_, h⟩ | ⟨h, _⟩ | ⟨h, _⟩ | ⟨h, _⟩
        · cases h
        · cases h
        · exact h
        · cases h
        · cases h
        · cases h
      obtain ⟨es2, e2, hRk⟩ := hR2
      obtain rfl : es2 = outE (d.rows d.n) seen := codeE_inj (e2.symm.trans e27)
      have hv : v = .map (some c2) := by
        simp only [AVal.den, hN2] at hy
        exact (Option.some.inj hy).symm
      have hp : (outE (d.rows d.n) seen).Perm d.ents := outE_perm (d.rows_nodup d.n) hR.once hR.keys fun p hp => List.contains_iff_mem.1 (List.all_eq_true.1 hall p hp)
      exact ⟨c2, F2, hv, .inr (.inr (.inr (.inr (.inr ⟨rfl, _, d.ents, rfl, hp, hRk⟩)))), hfr, Framed.of r.h⟩
    · have ea : fAll (codeE (d.rows d.n)) (encL seen) ≠ 1 := by
        unfold fAll
        rw [esOf_code, decL_encL, if_neg hall]; decide
      refine ⟨fW false ++ TB.cs, _, CRel_app.2 ⟨c1 (eqlF e64 (litD 1) ea) c0, hcs⟩, o17_b, Go.Vm.one (nextK rfl (fun l hl => by cases hl) fun ρ' hle' hc' hG' => ?_)⟩
      have j' := j.of_le hle'
      obtain ⟨i, hi⟩ : ∃ i, ρ'.N 500 = some i := by
        have h3 := hc' _ List.mem_cons_self
        cases hq : ρ'.N 500 with
        | some i => exact ⟨i, rfl⟩
        | none => simp only [BT.den, IT.den, hq, Option.map_none] at h3; cases h3
      have hk := kz_den hG' j'.i21 hi
      have jn : JB d (seen ++ [fKey (codeE (d.rows d.n)) i]) (b1.app ρ') := ⟨j'.i21, sbI (t := .un 3 (.var 25) kB) rfl (snoc_den (varD j'.i25) hk), by
        rw [outE_snoc]
        exact sbI rfl (out_den hG' j'.i21 j'.i27 hk)⟩
      have hGn : (Gd d).at (b1.app ρ') := gKeep rfl hG'
      exact ⟨hGn, small_ok ok hGn jn.i21, fun a w' r => ih _ (by rw [jn.i25, j.i25, decL_encL, decL_encL, List.length_append]; show _ - (seen.length + 1) < _; omega) ⟨_, jn⟩ _ a w' (.inl rfl) r⟩
theorem upd_denR {ρ : Env} (hG : (Gd d).at ρ) {i : Nat} (h21 : ρ.I 21 = codeE (d.rows i)) (h9 : ρ.I 9 = (i : Int)) (ht : d.takes 2 (-1) i = true) : (IT.fn 63 (.var 21) (.un 1 (rT at9 2) (rT at9 12))).den ρ = some (codeE (d.rows (i + 1))) := by
  have e9 : at9.den ρ = some (i : Int) := varD h9
  rw [fnD (varD h21) (unD (rT_den hG e9 2) (rT_den hG e9 12)), hG.2.2.2.2.2.1.1.2.2.2]
  show some (fUpd (codeE (d.rows i)) (encL [d.c i 2, d.c i 12])) = _
  simp only [fUpd, esOf_code, decL_encL, List.getD_cons_zero, List.getD_cons_succ]
  rw [Dt.rows, if_pos ht]
/-- RANK.OPS. -/
theorem ops17 (ok : DOk d) (hl : d.kl = .row) {ρ : Env} {w : World} {xs : List Value} (hr : HRel ⟨w, [], Gd d⟩ ρ (ofP (roH (EL .row))) 500 w) (hx : AVal.denL ρ [SL .row] = some xs) :
    Calls Tryd.prog 17 xs.toArray w fun e w' => ∃ v, e = .returned v ∧ R17 d w v w' := by
  have hn := ok.n100
  have csl : ∀ {ρ : Env}, (Gd d).at ρ → CRel ρ (csL .row) := fun hG => by have := dcL ok hG; rw [hl] at this; exact this
  have cA : ∀ {i ρ}, JA d i ρ → (Gd d).at ρ → CRel ρ TA.cs := fun j hG => CRel_app.2 ⟨cs9_ok j.i9 (pN hG) j.le, csl hG⟩
  have loop := scanM (β := ⟨w, [], Gd d⟩) (sp := spOA) (f := 17) (fn := Tryd.f17) (j := 0) (Rs := eO) (Ts := tO) (R := R17 d w) (T := fun (_ : Unit) => TA) spOA_ok (fun _ ρ => ∃ i, JA d i ρ) (fun ρ => ((d.n : Int) - ρ.I 9).toNat) fun _ ρ ⟨i, j⟩ hG hcs ih => by
    have hi := j.le
    by_cases hlt : i < d.n
    · have e9 : at9.den ρ = some (i : Int) := varD j.i9
      have l9 := lt9_ok j.i9 (pN hG) (decide_eq_true hlt)
      rcases kind_ways hG j.i9 (t := .lit 2) (k := 2) rfl with ⟨h1, h2, h3⟩ | ⟨h1, c, hc, hcr⟩
      · have ht := takes2.2 ⟨h1, h2⟩
        have go : ∀ s ∈ nA a3, MGoodO Tryd.prog ⟨w, [], Gd d⟩ 17 (R17 d w) eO tO ρ s := Go.Vm.one (nextR rfl (fun l hl => by cases hl) fun ρ' hle hG' => by
          have j' := j.of_le hle
          have jn : JA d (i + 1) (a3.app ρ') := ⟨sbI (t := up9) rfl (upD (varD j'.i9) (by omega)), hlt, sbI rfl (upd_denR hG' j'.i21 j'.i9 ht)⟩
          have hGn : (Gd d).at (a3.app ρ') := gKeep rfl hG'
          exact ⟨hGn, cA jn hGn, fun a w' r => ih () _ (by rw [jn.i9, j.i9]; omega) ⟨_, jn⟩ _ a w' (.inl rfl) r⟩)
        have e2 := rT_den hG e9 2
        have e60 : (IT.fn 60 (.var 21) (rT at9 2)).den ρ = some (fHas (codeE (d.rows i)) (d.c i 2)) := by rw [fnD (varD j.i21) e2, hG.2.2.2.2.2.1.1.1]
        cases hg : getE (d.rows i) (d.c i 2) with
        | none =>
          exact ⟨_, _, CRel_app.2 ⟨l9, CRel_app.2 ⟨h3, c1 (eqlF e60 (litD 1) (by simp [fHas, esOf_code, hg])) c0⟩⟩, o17_m, go⟩
        | some L =>
          have e62 : (IT.fn 62 (.var 21) (rT at9 2)).den ρ = some ((L.length : Nat) : Int) := by
            rw [fnD (varD j.i21) e2, hG.2.2.2.2.2.1.1.2.2.1]
            simp only [fLen, esOf_code, hg, Option.getD_some]
          have hL : L.length ≤ i := (d.rows_all (fun _ => True) (fun _ => True) i (fun _ _ _ => ⟨trivial, trivial⟩) _ (getE_mem hg)).2.1
          exact ⟨_, _, CRel_app.2 ⟨l9, CRel_app.2 ⟨h3, CRel_app.2 ⟨c1 (eqlT e60 (litD 1) (by simp [fHas, esOf_code, hg])) c0, c1 (leqT e62 (litD 1000000) (by omega)) c0⟩⟩⟩, o17_h, go⟩
      · refine ⟨_, _, CRel_app.2 ⟨l9, hcr⟩, o17_n c hc, Go.Vm.one (nextR rfl (fun l hl => by cases hl) fun ρ' hle hG' => ?_)⟩
        have j' := j.of_le hle
        have jn : JA d (i + 1) (a2.app ρ') := ⟨sbI (t := up9) rfl (upD (varD j'.i9) (by omega)), hlt, by
          show ρ'.I 21 = _
          rw [j'.i21, Dt.rows, if_neg fun h => h1 (takes2.1 h)]⟩
        have hGn : (Gd d).at (a2.app ρ') := gKeep rfl hG'
        exact ⟨hGn, cA jn hGn, fun a w' r => ih () _ (by rw [jn.i9, j.i9]; omega) ⟨_, jn⟩ _ a w' (.inl rfl) r⟩
    · obtain rfl : i = d.n := by omega
      refine ⟨_, _, CRel_app.2 ⟨lt9_ok j.i9 (pN hG) (decide_eq_false hlt), small_ok ok hG j.i21⟩, o17_e, Go.Vm.one (nextR rfl (fun l hl => by cases hl) fun ρ' hle hG' => ?_)⟩
      have j' := j.of_le hle
      have jn : JB d [] (a4.app ρ') := ⟨j'.i21, rfl, rfl⟩
      have hGn : (Gd d).at (a4.app ρ') := gKeep rfl hG'
      exact ⟨hGn, small_ok ok hGn jn.i21, fun a w' r => loopB ok w _ ⟨_, jn⟩ _ a w' (.inr rfl) r⟩
  refine callM spOA_ok Tryd.func17 rfl o17_in hx hr (csl hr.g) (Go.Vm.one (nextR rfl (fun l hl => by cases hl) fun ρ' hle hG' => ?_))
  have jn : JA d 0 (a1.app ρ') := ⟨sbI (t := .lit 0) rfl rfl, by omega, rfl⟩
  have hGn : (Gd d).at (a1.app ρ') := gKeep rfl hG'
  exact ⟨hGn, cA jn hGn, fun a w' r => loop () _ ⟨0, jn⟩ _ a w' (.inr rfl) r⟩
end
end Rt
end Go.Proofs.YtglghnfbkiondaaDoor
end
