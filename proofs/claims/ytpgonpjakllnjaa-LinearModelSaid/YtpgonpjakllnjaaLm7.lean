/-
  LinearModel (7): the floor of a key.
-/
import Derived.Test.YtpgonpjakllnjaaLm6
namespace Go.Proofs.Ytpgonpjakllnjaa
open Go.Vm Go.Vm.Md
namespace Lm

def hF : List (Nat × ABlk) := [(0, .cells [.var 0, .map 2, .var 1] 65 none), (2, .mapc (.var 37))]
def hFH : List (Nat × HB) := hF.map fun p => (p.1, (⟨p.2, false⟩ : HB))
def csF : Cs := [(.cmp .geq (.var 1) (.lit (-1)), true), (.cmp .leq (.var 1) (.lit 255), true)]
def TF : Tpl := ⟨[(0, .ptr 0 (.lit 0)), (4, .ptr 1 (.lit 0)), (5, iV 1)], 29, hFH ++ [(1, ⟨.cells [.int .i64 (.lit 0), .int .i64 (.lit 0)] 27 none, true⟩)], 10, csF, 3⟩
noncomputable def bF : Code := ((loopsOf (Try.f51.body.getD .ret) []).getD 0 (.ret, [])).1
noncomputable def kF : List Item := ((loopsOf (Try.f51.body.getD .ret) []).getD 0 (.ret, [])).2
noncomputable def RunF (c : Cs) (l : LS) : Prop := (run Try.prog [] (spL []) 4000 true 51 ((⟨TF.tm, TF.nt, TF.H, TF.nl, c ++ TF.cs, TF.dep⟩ : Tpl).st (.code bF :: .inLoop bF :: kF))).map (·.filterMap (sumD gM [TF])) = some [l]
def fG (b : Bool) : Cs := [(.cmp .geq (.var 1) (.lit 0), b)]
def fH (b : Bool) : Cs := [(.cmp .geq (.var 1) (.lit 0), true), (.cmp .eql (.un 6 (.var 37) (.var 1)) (.lit 1), b)]
def csF0 : Cs := [(.cmp .geq (.var 31) (.lit 0), true), (.cmp .leq (.var 31) (.lit 255), true)]
theorem fl_in : (run Try.prog [] (spL []) 4000 true 51 (entry Try.f51 (Try.f51.body.getD .ret) [me, iV 31] (ofP hFH) 10 csF0)).map (·.filterMap (sumD gM [TF])) = some [.next 0 (.code (.loop bF) :: kF) [] ⟨[(1, .var 31)], [], [], [], [(0, 0), (1, 10), (2, 2)]⟩] := by kernel_rfl
theorem fl_has : RunF (fH true) (.ret (.agg [.int .i64 (.lit 0), .int .i64 (.bin .add .i64 (.bin .mul .i64 (.var 1) (.lit 1024)) (.un 5 (.var 37) (.var 1)))]) []) := by unfold RunF; kernel_rfl
theorem fl_not : RunF (fH false) (.next 0 (.inLoop bF :: kF) [] ⟨[(1, .bin .sub .i64 (.var 1) (.lit 1))], [], [], [], [(0, 0), (1, 1), (2, 2)]⟩) := by unfold RunF; kernel_rfl
theorem fl_end : RunF (fG false) (.ret (.agg [.int .i64 (.lit 1), .int .i64 (.lit 0)]) []) := by unfold RunF; kernel_rfl
theorem noSp0 (β : Base) : CallOk Try.prog β (spL []) := spL_ok fun _ hp => by cases hp
structure JF (M : List Int) (r : Int × Int) (n : Nat) (ρ : Env) : Prop where
  i37 : ρ.I 37 = encL M
  i1 : ρ.I 1 = (n : Int) - 1
  le : n ≤ 256
  r : flM M n = r
theorem JF.of_le {M r n} {ρ ρ' : Env} (h : JF M r n ρ) (g : ρ.Le ρ') : JF M r n ρ' := ⟨by rw [g.i]; exact h.i37, by rw [g.i]; exact h.i1, h.le, h.r⟩
def ansV (r : Int × Int) : Value := .agg #[.int .i64 r.1, .int .i64 r.2]
theorem JF.cs {M r n} {ρ : Env} (h : JF M r n ρ) : CRel ρ csF := by
  have := h.le
  exact c1 (geqT (varD h.i1) (litD _) (by omega)) (c1 (leqT (varD h.i1) (litD _) (by omega)) c0)
theorem un6_den {ρ : Env} {t u : IT} {L : List Int} {k : Int} (h : t.den ρ = some (encL L)) (g : u.den ρ = some k) : (IT.un 6 t u).den ρ = some (if (mGet L k).isSome then 1 else 0) := by
  rw [unD h g]
  show some (if (mGet (decL (encL L)) k).isSome then 1 else 0) = _
  rw [decL_encL]
theorem un5_den {ρ : Env} {t u : IT} {L : List Int} {k : Int} (h : t.den ρ = some (encL L)) (g : u.den ρ = some k) : (IT.un 5 t u).den ρ = some ((mGet L k).getD 0) := by
  rw [unD h g]
  show some ((mGet (decL (encL L)) k).getD 0) = _
  rw [decL_encL]
theorem has_den {ρ : Env} {t u : IT} {L : List Int} {k : Int} (h : t.den ρ = some (encL L)) (g : u.den ρ = some k) {b : Bool} (hb : (mGet L k).isSome = b) : (BT.cmp .eql (.un 6 t u) (.lit 1)).den ρ = some b := by
  have e := un6_den h g
  rw [hb] at e
  cases b
  · rw [eqlF e (litD 1) (by decide)]
  · rw [eqlT e (litD 1) rfl]
set_option maxHeartbeats 1000000 in
theorem floor51 {w : World} {b bp : Nat} {c : Array Value} {fr : Nat × Nat} {v0 v1 : Value} {em : Array MapEntry} {cm : Nat} {M : List Int} {k : Int} (hb : w.heap[b]? = some (.cells c 65 fr)) (hc : c.toList = [v0, .map (some bp), v1]) (hp : w.heap[bp]? = some (.map em cm)) (he : em.toList.map (fun e => (e.key, e.val)) = entOf M ∧ Born em cm) (k0 : 0 ≤ k) (k1 : k ≤ 255) :
    Calls Try.prog 51 #[.pointer (some ⟨b, 0, none⟩), .int .i64 k] w fun e w' => ∃ v, e = .returned v ∧ v = ansV (flM M (k.toNat + 1)) ∧ Framed w w' := by
  obtain ⟨ρ, hρ⟩ : ∃ ρ : Env, ρ = ⟨fun i => if i = 37 then encL M else if i = 31 then k else 0, fun _ => false, fun _ => default, fun i => if i = 0 then v0 else v1, fun i => if i = 0 then some b else if i = 2 then some bp else none, F0⟩ := ⟨_, rfl⟩
  have hN0 : ρ.N 0 = some b := by rw [hρ]; rfl
  have h37 : ρ.I 37 = encL M := by rw [hρ]; rfl
  have h31 : ρ.I 31 = k := by rw [hρ]; rfl
  have hsize : c.size = 3 := by
    have : c.toList.length = 3 := by rw [hc]; rfl
    simpa using this
  have hr : HRel (.plain w) ρ (ofP hFH) 10 w := by
    refine HRel.ro hF (fun p hp' => ?_) (fun i hi => ?_) trivial
    · simp only [hF, List.mem_cons, List.not_mem_nil, or_false] at hp'
      rcases hp' with rfl | rfl
      · exact ⟨b, _, hN0, hb, ⟨[v0, .map (some bp), v1], c, fr, rfl, by rw [hρ]; rfl, by rw [hc]; exact List.prefix_refl _, hsize, fun e => by cases e⟩⟩
      · exact ⟨bp, _, by rw [hρ]; rfl, hp, ⟨encL M, em, cm, rfl, congrArg some h37, by rw [decL_encL]; exact he.1, he.2⟩⟩
    · rw [hρ]
      show (if i = 0 then some b else if i = 2 then some bp else none) = none
      rw [if_neg (by omega), if_neg (by omega)]
  have hx : AVal.denL ρ [me, iV 31] = some [.pointer (some ⟨b, 0, none⟩), .int .i64 k] := denL2 (by simp only [me, AVal.den, hN0]; rfl) (by simp only [iV, AVal.den, IT.den, h31, Option.map_some])
  have loop := loop_goesD (P := Try.prog) (β := .plain w) (f := 51) (Q := fun v => v = ansV (flM M (k.toNat + 1))) (Ts := [TF]) (T := TF) (b := bF) (k := kF) (n := 4000) (g := gM) (pl := true) noCount noExt (noSp0 _) follows rfl (fun ρ => ∃ n, JF M (flM M (k.toNat + 1)) n ρ) (fun ρ => (ρ.I 1 + 1).toNat) fun ρ ⟨n, j⟩ _ _ _ ih => by
    have hle := j.le
    cases n with
    | zero =>
      have hr := j.r
      refine ⟨fG false ++ csF, _, CRel_app.2 ⟨c1 (geqF (varD j.i1) (litD 0) (by omega)) c0, j.cs⟩, fl_end, one (retS (z := ansV (flM M (k.toNat + 1))) (fun ρ' hle => ?_) rfl)⟩
      rw [← hr]; rfl
    | succ n =>
      have e1 : (IT.var 1).den ρ = some (n : Int) := varD (by rw [j.i1]; omega)
      have ge : (BT.cmp .geq (.var 1) (.lit 0)).den ρ = some true := geqT e1 (litD 0) (by omega)
      cases hm : mGet M (n : Int) with
      | some v =>
        have hr : (0, IntKind.i64.wrap (IntKind.i64.wrap ((n : Int) * 1024) + v)) = flM M (k.toNat + 1) := by rw [← j.r, flM, hm]
        refine ⟨fH true ++ csF, _, CRel_app.2 ⟨c1 ge (c1 (has_den (varD j.i37) e1 (by rw [hm]; rfl)) c0), j.cs⟩, fl_has, one (retS (z := ansV (flM M (k.toNat + 1))) (fun ρ' hle => ?_) rfl)⟩
        have j' := j.of_le hle
        have e1' : (IT.var 1).den ρ' = some (n : Int) := varD (by rw [j'.i1]; omega)
        have e5 := un5_den (varD j'.i37) e1'
        rw [hm] at e5
        rw [← hr]
        have e6 : (IT.bin .mul .i64 (.var 1) (.lit 1024)).den ρ' = some (IntKind.i64.wrap ((n : Int) * 1024)) := by rw [binD e1' (litD 1024)]; rfl
        have e7 : (IT.bin .add .i64 (.bin .mul .i64 (.var 1) (.lit 1024)) (.un 5 (.var 37) (.var 1))).den ρ' = some (IntKind.i64.wrap (IntKind.i64.wrap ((n : Int) * 1024) + v)) := by rw [binD e6 e5]; rfl
        simp only [AVal.den, AVal.denL, e7, litD, Option.map_some, ansV]
      | none =>
        refine ⟨fH false ++ csF, _, CRel_app.2 ⟨c1 ge (c1 (has_den (varD j.i37) e1 (by rw [hm]; rfl)) c0), j.cs⟩, fl_not, one (nextS rfl fun ρ' hle hG => ?_)⟩
        have j' := j.of_le hle
        have e1' : (IT.var 1).den ρ' = some (n : Int) := varD (by rw [j'.i1]; omega)
        have d1 : (Sub.app ⟨[(1, .bin .sub .i64 (.var 1) (.lit 1))], [], [], [], [(0, 0), (1, 1), (2, 2)]⟩ ρ').I 1 = (n : Int) - 1 := sbI rfl (minusD e1' (litD 1) (by omega) (by omega))
        have jn : JF M (flM M (k.toNat + 1)) n (Sub.app ⟨[(1, .bin .sub .i64 (.var 1) (.lit 1))], [], [], [], [(0, 0), (1, 1), (2, 2)]⟩ ρ') := ⟨j'.i37, d1, by omega, by rw [← j.r, flM, hm]⟩
        exact ⟨hG, jn.cs, fun a w' r => ih _ (by rw [d1, j.i1]; omega) ⟨n, jn⟩ _ a w' (.inl rfl) r⟩
  refine calls_sumsD (β := .plain w) (Q := fun v => v = ansV (flM M (k.toNat + 1))) (g := gM) (Ts := [TF]) (pl := true) noCount noExt (noSp0 _) follows rfl Try.func51 rfl fl_in hx hr (c1 (geqT (varD h31) (litD 0) k0) (c1 (leqT (varD h31) (litD 255) k1) c0))
    (one (nextS rfl fun ρ' hle hG => ?_))
  have d1 : (Sub.app ⟨[(1, .var 31)], [], [], [], [(0, 0), (1, 10), (2, 2)]⟩ ρ').I 1 = k := sbI rfl (varD (by rw [hle.i]; exact h31))
  have j : JF M (flM M (k.toNat + 1)) (k.toNat + 1) (Sub.app ⟨[(1, .var 31)], [], [], [], [(0, 0), (1, 10), (2, 2)]⟩ ρ') := ⟨by show ρ'.I 37 = _; rw [hle.i]; exact h37, by rw [d1]; omega, by omega, rfl⟩
  exact ⟨hG, j.cs, fun a w' r => loop _ ⟨_, j⟩ _ a w' (.inr rfl) r⟩
-- AS THE MACHINE TAKES IT
def spFloor : SpG := fun args H nl cs => match args with
  | [.ptr l (.lit (.ofNat 0)), .int .i64 k] => match H.get l with
    | some ⟨.cells [_, .map j, _] 65 none, _⟩ => match H.get j with
      | some ⟨.mapc c, _⟩ => match lookB cs (.cmp .geq k (.lit 0)), lookB cs (.cmp .leq k (.lit 255)) with
        | some true, some true => some [.ret (.agg [.int .i64 (.fn 95 c k), .int .i64 (.fn 96 c k)]) H nl cs]
        | _, _ => none
      | _ => none
    | _ => none
  | _ => none
theorem spFloor_ok {β : Base} (hG : ∀ I B S V F, β.G I B S V F → GL I B S V F) : SpGOk Try.prog β 51 spFloor := by
  intro args H nl cs ls ρ w xs hr hx hh hc
  unfold spFloor at hr
  split at hr
  rotate_left
  · cases hr
  rename_i l k
  split at hr
  rotate_left
  · cases hr
  rename_i u0 j u1 rw hg
  split at hr
  rotate_left
  · cases hr
  rename_i c rw2 hg2
  split at hr
  rotate_left
  · cases hr
  rename_i l1 l2
  cases hr
  have g1 := lookB_ok l1 hc
  have g2 := lookB_ok l2 hc
  obtain ⟨b, o, hb, hob, xs', c', fr, rfl, hd, hp, ht, _⟩ := hh.blk l _ hg
  obtain ⟨bp, o2, hbp, hop, x, em, cm, rfl, hcx, he⟩ := hh.blk j _ hg2
  have e2 : (AVal.map j).den ρ = some (.map (some bp)) := by simp only [AVal.den, hbp, Option.map_some]
  cases hk : k.den ρ with
  | none => simp only [BT.den, hk] at g1; cases g1
  | some z =>
    rw [cmpD hk (litD 0)] at g1
    rw [cmpD hk (litD 255)] at g2
    simp only [intCmp, Option.some.injEq, decide_eq_true_eq] at g1 g2
    have hx' : AVal.denL ρ [.ptr l (.lit 0), .int .i64 k] = some [.pointer (some ⟨b, 0, none⟩), .int .i64 z] := denL2 (by simp only [AVal.den, hb]; rfl) (by simp only [AVal.den, hk, Option.map_some])
    obtain rfl : [.pointer (some ⟨b, 0, none⟩), .int .i64 z] = xs := Option.some.inj (hx'.symm.trans hx)
    cases h0 : u0.den ρ with
    | none => simp only [AVal.denL, h0] at hd; cases hd
    | some v0 =>
      cases h1 : u1.den ρ with
      | none => simp only [AVal.denL, h0, h1, e2] at hd; cases hd
      | some v1 =>
        simp only [AVal.denL, h0, h1, e2, Option.some.injEq] at hd
        subst hd
        have hcl : c'.toList = [v0, .map (some bp), v1] := by
          obtain ⟨t, ht'⟩ := hp
          have hlen : c'.toList.length = 3 := by
            have : c'.size = 3 := ht
            simpa using this
          rw [← ht'] at hlen ⊢
          have : t = [] := by
            cases t with
            | nil => rfl
            | cons a t => simp at hlen
          rw [this, List.append_nil]
        obtain ⟨q1, q2⟩ := hG _ _ _ _ _ hh.g
        have d1 : (IT.fn 95 c k).den ρ = some (flM (decL x) (z.toNat + 1)).1 := by rw [fnD hcx hk, q1]
        have d2 : (IT.fn 96 c k).den ρ = some (flM (decL x) (z.toNat + 1)).2 := by rw [fnD hcx hk, q2]
        exact spV_ok ((floor51 (M := decL x) hob hcl hop he g1 g2).mono fun e w' ⟨v, h, hv, hf⟩ => ⟨by rw [h, hv], hf⟩) (by simp only [AVal.den, AVal.denL, d1, d2, Option.map_some, ansV]) hh hc
end Lm
end Go.Proofs.Ytpgonpjakllnjaa
