/-
  LinearModel (1): right operations.
-/
import Derived.Test.YtpgonpjakllnjaaBa
import Derived.Test.YtpgonpjakllnjaaVm27
import Derived.Lib.Walk
import Derived.Lib.SliceRun
import Derived.Laws.AppendOwn
import Derived.WalkKit
import Derived.Deep.LoopGhost
import Derived.Test.YtpgonpjakllnjaaVm30
section
namespace Go.Proofs.Ytpgonpjakllnjaa
open Go.Vm

def orT (a b : BT) : BT := .not (.and (.not a) (.not b))
def eqT (a : IT) (n : Int) : BT := .cmp .eql a (.lit n)
def inT (a : IT) (lo hi : Int) : BT := .and (.cmp .geq a (.lit lo)) (.cmp .leq a (.lit hi))
/-- An operation is right. -/
def tRight (c k a b : IT) : BT :=
  .and (inT c 0 14) (.and (inT k 0 255) (.and (inT a 0 1023) (.and (inT b 0 1023)
    (.and (orT (eqT k 0) (.and (.cmp .geq c (.lit 4)) (.not (eqT c 8))))
      (.and (orT (eqT a 0) (orT (eqT c 1) (orT (eqT c 5) (orT (eqT c 7) (eqT c 10))))) (orT (eqT b 0) (eqT c 7)))))))
def opA : AVal := .agg [.int .i64 (.var 0), .int .i64 (.var 1), .int .i64 (.var 2), .int .i64 (.var 3)]
noncomputable def body27 : Code := Try.f27.body.getD .ret
/-- Is an operation of this code walked through? -/
noncomputable def runR (f : FuncId) (fn : Func) (b : Code) (c : Nat) : Option Bool :=
  (run Try.prog [] (spOf noSpecs) 4000 false f (entry fn b [.agg [.int .i64 (.lit (.ofNat c)), .int .i64 (.var 1), .int .i64 (.var 2), .int .i64 (.var 3)]] .leaf 0 [])).map (·.all (leafB (tRight (.lit (.ofNat c)) (.var 1) (.var 2) (.var 3))))
/-- .. and of one that is none? -/
def codeCs (low : Bool) : Cs := [(.cmp .lss (.var 0) (.lit 0), low), (.cmp .geq (.var 0) (.lit 15), !low), (.cmp .gtr (.var 0) (.lit 14), !low)]
noncomputable def runN (f : FuncId) (fn : Func) (b : Code) (low : Bool) : Option Bool :=
  (run Try.prog [] (spOf noSpecs) 4000 false f (entry fn b [opA] .leaf 0 (codeCs low))).map (·.all (leafB (tRight (.var 0) (.var 1) (.var 2) (.var 3))))
theorem run27_0 : runR 27 Try.f27 body27 0 = some true := by kernel_rfl
theorem run27_1 : runR 27 Try.f27 body27 1 = some true := by kernel_rfl
theorem run27_2 : runR 27 Try.f27 body27 2 = some true := by kernel_rfl
theorem run27_3 : runR 27 Try.f27 body27 3 = some true := by kernel_rfl
theorem run27_4 : runR 27 Try.f27 body27 4 = some true := by kernel_rfl
theorem run27_5 : runR 27 Try.f27 body27 5 = some true := by kernel_rfl
theorem run27_6 : runR 27 Try.f27 body27 6 = some true := by kernel_rfl
theorem run27_7 : runR 27 Try.f27 body27 7 = some true := by kernel_rfl
theorem run27_8 : runR 27 Try.f27 body27 8 = some true := by kernel_rfl
theorem run27_9 : runR 27 Try.f27 body27 9 = some true := by kernel_rfl
theorem run27_10 : runR 27 Try.f27 body27 10 = some true := by kernel_rfl
theorem run27_11 : runR 27 Try.f27 body27 11 = some true := by kernel_rfl
theorem run27_12 : runR 27 Try.f27 body27 12 = some true := by kernel_rfl
theorem run27_13 : runR 27 Try.f27 body27 13 = some true := by kernel_rfl
theorem run27_14 : runR 27 Try.f27 body27 14 = some true := by kernel_rfl
theorem run27_low : runN 27 Try.f27 body27 true = some true := by kernel_rfl
theorem run27_high : runN 27 Try.f27 body27 false = some true := by kernel_rfl
theorem run27_all : ∀ c, c < 15 → runR 27 Try.f27 body27 c = some true := by
  intro c hc
  match c, hc with
  | 0, _ => exact run27_0
  | 1, _ => exact run27_1
  | 2, _ => exact run27_2
  | 3, _ => exact run27_3
  | 4, _ => exact run27_4
  | 5, _ => exact run27_5
  | 6, _ => exact run27_6
  | 7, _ => exact run27_7
  | 8, _ => exact run27_8
  | 9, _ => exact run27_9
  | 10, _ => exact run27_10
  | 11, _ => exact run27_11
  | 12, _ => exact run27_12
  | 13, _ => exact run27_13
  | 14, _ => exact run27_14
theorem run27_none : ∀ low, runN 27 Try.f27 body27 low = some true := by
  intro low
  cases low
  · exact run27_high
  · exact run27_low
theorem tRight_lit {ρ ρ0 : Env} {c k a b : IT} {x y z u : Int} (hc : c.den ρ = some x) (hk : k.den ρ = some y) (ha : a.den ρ = some z) (hb : b.den ρ = some u) :
    (tRight c k a b).den ρ = (tRight (.lit x) (.lit y) (.lit z) (.lit u)).den ρ0 := by
  simp only [tRight, orT, eqT, inT, BT.den, IT.den, hc, hk, ha, hb]
theorem tRight_some (x y z u : Int) : ∃ b, ∀ ρ : Env, (tRight (.lit x) (.lit y) (.lit z) (.lit u)).den ρ = some b := ⟨_, fun _ => rfl⟩
def spRight : SpecF := fun args => match args with
  | [.agg [.int .i64 c, .int .i64 k, .int .i64 a, .int .i64 b]] => some [(.bool (tRight c k a b), [])]
  | _ => none
theorem den_ints4 {ρ : Env} {c k a b : IT} {xs : List Value} (h : AVal.denL ρ [.agg [.int .i64 c, .int .i64 k, .int .i64 a, .int .i64 b]] = some xs) :
    ∃ x y z u, c.den ρ = some x ∧ k.den ρ = some y ∧ a.den ρ = some z ∧ b.den ρ = some u ∧ xs = [.agg #[.int .i64 x, .int .i64 y, .int .i64 z, .int .i64 u]] := by
  cases hc : c.den ρ <;> cases hk : k.den ρ <;> cases ha : a.den ρ <;> cases hb : b.den ρ <;> simp [AVal.denL, AVal.den, hc, hk, ha, hb] at h
  exact ⟨_, _, _, _, rfl, rfl, rfl, rfl, h.symm⟩
theorem spRight_ok {f : FuncId} {fn : Func} {c : Code} (hf : Try.prog.funcs[f]? = some fn) (hb : fn.body = some c)
    (hr : ∀ k, k < 15 → runR f fn c k = some true) (hn : ∀ low, runN f fn c low = some true) : SpecOk Try.prog f spRight := by
  intro args alts ρ w xs h hx
  unfold spRight at h
  split at h
  · cases h
    obtain ⟨x, y, z, u, h1, h2, h3, h4, rfl⟩ := den_ints4 hx
    obtain ⟨b, hb'⟩ := tRight_some x y z u
    have hwalk : Calls Try.prog f #[.agg #[.int .i64 x, .int .i64 y, .int .i64 z, .int .i64 u]] w (fun e w' => e = .returned (.bool b) ∧ Framed w w') := by
      by_cases hx : 0 ≤ x ∧ x < 15
      · obtain ⟨k, rfl⟩ : ∃ k : Nat, x = (k : Int) := ⟨x.toNat, by omega⟩
        exact calls_bool (w := w) (ρ := envOf [0, y, z, u] [] F0) noCount noExt noSpecs_ok follows hf hb (hr k (by omega)) rfl (fun _ => rfl) (fun _ h => by cases h) ((tRight_lit (ρ0 := ρ) rfl rfl rfl rfl).trans (hb' ρ))
      · refine calls_bool (w := w) (ρ := envOf [x, y, z, u] [] F0) noCount noExt noSpecs_ok follows hf hb (hn (decide (x < 0))) rfl (fun _ => rfl) (fun p hp => ?_) ((tRight_lit (ρ0 := ρ) rfl rfl rfl rfl).trans (hb' ρ))
        rcases List.mem_cons.1 hp with rfl | hp
        · rfl
        rcases List.mem_cons.1 hp with rfl | hp
        · show some (decide (x ≥ 15)) = some (!decide (x < 0))
          by_cases h0 : x < 0
          · have : ¬ x ≥ 15 := by omega
            simp [h0, this]
          · have : x ≥ 15 := by omega
            simp [h0, this]
        rcases List.mem_cons.1 hp with rfl | hp
        · show some (decide (x > 14)) = some (!decide (x < 0))
          by_cases h0 : x < 0
          · have : ¬ x > 14 := by omega
            simp [h0, this]
          · have : x > 14 := by omega
            simp [h0, this]
        cases hp
    refine hwalk.mono fun e' w' ⟨he, hfr⟩ => ⟨_, he, hfr, _, List.mem_cons_self, ?_, fun _ hp => by cases hp⟩
    simp only [AVal.den, (tRight_lit (ρ0 := ρ) h1 h2 h3 h4).trans (hb' ρ), Option.map_some]
  · cases h
theorem right27 : SpecOk Try.prog 27 spRight := spRight_ok Try.func27 rfl run27_all run27_none
end Go.Proofs.Ytpgonpjakllnjaa
end

/-
  Pace (1): what is known of slices.Clone of a row told as a number, as the machine takes it.
-/
section
namespace Go.Vm

end Go.Vm
end

/-
  LinearModel (2): slices.Clone of a queue's row.
-/
section
namespace Go.Proofs.Ytpgonpjakllnjaa
open Go.Vm Go.RowKit Go.Lib
namespace Lm
theorem framed_of_below {w w' : World} (h : Below w.heap.size w w') : Framed w w' := by
  obtain ⟨h1, h2, h3, h4, h5⟩ := h
  exact ⟨h4, h5, h2, h1, h3⟩
/-- A row as the kit tells it, as the machine does. -/
theorem rowOut_owns {w w' : World} {v' : Value} {e : TypeId} {ks : List IntKind} {L : List Int} {m : Nat} (hl : L.length = m * ks.length) (h : w'.ownsRow w.heap.size e ks.length v' m (rowOf ks L)) (hnn : v' ≠ .slice none 0 0) (hf : Framed w w') : RowOut w w' v' e ks L m := by
  obtain ⟨_, h⟩ := h
  rcases h with ⟨h1, _⟩ | ⟨g, cap, cur, rfl, hg, hc, _, _, hs, ht⟩
  · exact absurd h1 hnn
  · refine ⟨hf, hl, g, cap, cur, (0, 0), rfl, hg, hc, ?_, hs, .inl (Nat.le_refl _)⟩
    rw [← ht]; exact List.take_prefix _ _
theorem one_cell {ks : List IntKind} {L : List Int} : ∀ u ∈ rowOf ks L, u.oneCell' = true := by
  intro u hu
  obtain ⟨i, hi⟩ := List.getElem?_of_mem hu
  rw [rowOf_get] at hi
  obtain ⟨z, _, rfl⟩ := Option.map_eq_some_iff.1 hi
  rfl
theorem infoOf {P : Program} {t : TypeId} {z : Value} {s b : Nat} (h : (P.info? t).map (fun i => (i.zero, i.size, i.bytes)) = some (some z, s, b)) : ∃ i, P.info? t = some i ∧ i.zero = some z ∧ i.size = s ∧ i.bytes = b := by
  obtain ⟨i, hi, he⟩ := Option.map_eq_some_iff.1 h
  simp only [Prod.mk.injEq] at he
  exact ⟨i, hi, he.1, he.2.1, he.2.2⟩
theorem info3 : (Try.prog.info? 3).map (fun i => (i.zero, i.size, i.bytes)) = some (some (.int .i64 0), 1, 8) := by kernel_rfl
set_option maxHeartbeats 2000000 in
set_option maxRecDepth 100000 in
theorem clone22 (w : World) (b off n c : Nat) (L : List Int) (hl : L.length = n * 1) (hn : n ≤ 1000000) (hc : ∀ (j : Nat) u, (rowOf [.i64] L)[j]? = some u → w.cell? ⟨b, off + j, none⟩ = some u) :
    Calls Try.prog 22 #[.slice (some ⟨b, off, none⟩) n c] w fun e w' => ∃ v', e = .returned v' ∧ w'.ownsRow w.heap.size 3 1 v' n (rowOf [.i64] L) ∧ v' ≠ .slice none 0 0 ∧ Below w.heap.size w w' := by
  obtain ⟨i0, hi, hz0, hz1, hz2⟩ := infoOf info3
  have q22 : ∀ (w : World) (a : Option Addr) (n c n' c' : Nat), (binOp .eql 32 (.slice a n c) (.slice none n' c')).run Try.prog w = .ok (.bool a.isNone) w := fun w a n c n' c' => Lib.run_eql_slice_nil w _ _ a n c n' c' Try.underlying32
  have hlen : (rowOf [.i64] L).length = n := by rw [rowOf_length, hl]; omega
  have h1 := one_cell (ks := [.i64]) (L := L)
  have A : Aside (∀ (j : Nat) u, (rowOf [.i64] L)[j]? = some u → w.cell? ⟨b, off + j, none⟩ = some u) := hc
  clear hc hl
  generalize rowOf [.i64] L = xs at A h1 hlen ⊢
  go_enter Try.func22, Try.ntmps22
  go_wp2_with (at_builtin; refine wpList_append_own _ rfl _ _ 32 rfl w.heap.size 3 i0 (.int .i64 0) 1 8 Try.underlying32 hi hz0 hz1 hz2 rfl (by decide) _ _ _ rfl (World.ownsRow_made w #[] 0 (Nat.le_refl _) (Nat.zero_le _) rfl) ⟨b, off, none⟩ n c xs rfl ?qc1 ?qc2 ?qc3 ?qc4 ?qc5 ?qc6 ?_)
  case qc1 => rw [hlen]; omega
  case qc2 =>
    intro j u hj
    rw [Addr.add_lit]
    exact Lib.cell?_alloc_some _ (A.out j u hj)
  case qc3 => exact h1
  case qc4 => unfold maxLen; omega
  case qc5 => omega
  case qc6 => simp
  intro v' w1 hown hgrow hnil
  go_wp2
  go_ret
  refine ⟨v', rfl, by simpa using hown, ?_, ?_⟩
  · exact hnil
  · exact ((Below.refl _ w).alloc (Nat.le_refl _) _).grown hgrow (by simp) (by intro k hk; simp [Value.ownBlock] at hk; omega)
/-- A row that a call hands out, told by any number that tells it. -/
theorem row_inY {β : Base} {ρ : Env} {H : Heap} {nl : Nat} {w w' : World} {x : Value} {nT c : IT} {e : TypeId} {ks : List IntKind} {L : List Int} {m : Nat} {y : Int} (h : HRel β ρ H nl w) (r : RowOut w w' x e ks L m) (hn : nT.den ρ = some (m : Int)) (hc : c.den ρ = some y) (hy : decL y = L) :
    ∃ ρ', ρ.Le ρ' ∧ (AVal.slice (nl + 1) (.lit 0) nT (.nv nl)).den ρ' = some x ∧ HRel β ρ' (H.set (nl + 1) ⟨.arr (.code ks c) ks e nT (.lit 0) (some (.nv nl)), true⟩) (nl + 2) w' := by
  obtain ⟨b, cap, c0, f, rfl, hb, hob, hp, hcs, hf⟩ := r.row
  have h1 := h.num cap
  have hle1 : ρ.Le (ρ.put nl cap) := Env.le_put (h.fresh nl (Nat.le_refl _))
  have hle2 : (ρ.put nl cap).Le ((ρ.put nl cap).put (nl + 1) b) := Env.le_put (h1.fresh _ (Nat.le_refl _))
  have hcapd : (IT.nv nl).den ((ρ.put nl cap).put (nl + 1) b) = some (cap : Int) := by
    have : ((ρ.put nl cap).put (nl + 1) b).N nl = some cap := hle2.n _ _ (Env.put_same ..)
    simp only [IT.den, this]; rfl
  have hrel : (ABlk.arr (.code ks c) ks e nT (.lit 0) (some (.nv nl))).rel ((ρ.put nl cap).put (nl + 1) b) true (.cells c0 e f) := by
    refine ⟨rowOf ks L, c0, f, e, m, 0, rfl, fun _ => rfl, ?_, rfl, ⟨Nat.zero_le _, by rw [List.drop_zero]; exact hp⟩, IT.den_mono (hle1.trans hle2) hn, rowOf_typed r.len, ⟨cap, hcapd, by rw [Nat.sub_zero]; exact hcs⟩, fun _ => hf⟩
    simp only [AT.den, IT.den_mono (hle1.trans hle2) hc, Option.map_some, hy]
  refine ⟨_, hle1.trans hle2, ?_, h1.adopt r.fr hb hob hrel⟩
  have e1 : natOf (nT.den ((ρ.put nl cap).put (nl + 1) b)) = some m := by rw [IT.den_mono (hle1.trans hle2) hn]; rfl
  have e2 : natOf ((IT.nv nl).den ((ρ.put nl cap).put (nl + 1) b)) = some cap := by rw [hcapd]; rfl
  have e0 : natOf ((IT.lit 0).den ((ρ.put nl cap).put (nl + 1) b)) = some 0 := rfl
  have e3 : ((ρ.put nl cap).put (nl + 1) b).N (nl + 1) = some b := Env.put_same ..
  simp only [AVal.den, e0, e1, e2, e3]
theorem sureC_ok {ρ : Env} {cs : Cs} {op : BinOp} {n : IT} {z : Int} {x : Int} (h : sureC cs (.cmp op n (.lit z)) = true) (hs : Go.Vm.sure (.cmp op n (.lit z)) = false) (hc : CRel ρ cs) (hn : n.den ρ = some x) : intCmp op x z = some true := by
  simp only [sureC, hs, Bool.false_or] at h
  split at h
  · rename_i b hb
    subst h
    have := lookB_ok hb hc
    simpa only [BT.den, hn, IT.den] using this
  · cases h
end Lm
end Go.Proofs.Ytpgonpjakllnjaa
end

/-
  LinearModel (3): slices.Clone of what is left of a queue.
-/
section
namespace Go.Proofs.Ytpgonpjakllnjaa
open Go.Vm
namespace Lm

theorem noSpB (β : Base) : CallOk Try.prog β (spL []) := spL_ok fun _ hp => by cases hp
def gQ : Gen := ⟨60, 0, 0, 0⟩
def zQ : AVal := .slice 0 (.var 62) (.lit 0) (.var 63)
def eQ : List Tpl := [⟨[(0, .slice 10 (.lit 0) (.lit 0) (.lit 0))], 1, [], 11, [], 0⟩]
theorem z_run : (run Try.prog [] (spL []) 4000 true 22 (entry Try.f22 (Try.f22.body.getD .ret) [zQ] .leaf 1 [])).map (·.filterMap (sumMD gQ [] eQ [])) = some [.done 0 [] ⟨[], [], [], [], [(10, 1)]⟩] := by kernel_rfl
/-- Of nothing: nothing. -/
theorem clone22z (w : World) (b o c : Nat) : Calls Try.prog 22 #[.slice (some ⟨b, o, none⟩) 0 c] w fun e w' => (∃ b', e = .returned (.slice (some ⟨b', 0, none⟩) 0 0)) ∧ Framed w w' := by
  obtain ⟨ρ, hρ⟩ : ∃ ρ : Env, ρ = ⟨fun i => if i = 62 then o else if i = 63 then c else 0, fun _ => false, fun _ => default, fun _ => undef, fun i => if i = 0 then some b else none, F0⟩ := ⟨_, rfl⟩
  have hr : HRel (.plain w) ρ .leaf 1 w := by
    rw [hρ]
    exact HRel.ro [] (fun p hp' => by cases hp') (fun i hi => if_neg (by omega)) trivial
  have hx : AVal.denL ρ [zQ] = some [.slice (some ⟨b, o, none⟩) 0 c] := by
    rw [hρ]; exact denL1 (den_slice_of rfl rfl rfl rfl)
  refine (calls_sumsE (β := .plain w) (R := fun x w' => (∃ b', x = .slice (some ⟨b', 0, none⟩) 0 0) ∧ Framed w w') (g := gQ) (L := []) (Rs := eQ) (Ts := []) (pl := true) noCount noExt (noSpB _) follows Try.func22 rfl z_run hx hr c0
    (one (doneR rfl (fun l hl => by cases hl) fun ρ' hle hG => ⟨trivial, c0, fun x w' r => ?_⟩))).mono fun e w' ⟨v, he, ⟨b', hb⟩, hf⟩ => ⟨⟨b', by rw [he, hb]⟩, hf⟩
  obtain ⟨y, hy, he⟩ := r.t 0 _ rfl
  obtain rfl : x = y := Option.some.inj he
  obtain ⟨b', o', n', c', rfl, _, ho, hn, hc⟩ := den_slice hy
  obtain rfl : o' = 0 := by have := Option.some.inj ho; exact (Int.ofNat.inj this).symm
  obtain rfl : n' = 0 := by have := Option.some.inj hn; exact (Int.ofNat.inj this).symm
  obtain rfl : c' = 0 := by have := Option.some.inj hc; exact (Int.ofNat.inj this).symm
  exact ⟨⟨b', rfl⟩, Framed.of r.h⟩
/-- What is left of a queue behind its first number. -/
def leftOff (j : Nat) : IT := .elem (.lit 0) 1 0 (.un 13 (.lit 1) (.nv j))
def leftLen (n : IT) : IT := .un 14 n (.lit 1)
def spLeft : SpG := fun args H nl cs => match args with
  | [.slice l off n _] => match lookB cs (.cmp .geq n (.lit 1)) with
    | some false => some [.ret (.slice nl (.lit 0) (.lit 0) (.lit 0)) H (nl + 1) cs]
    | some true => match H.get l with
      | some ⟨.arr (.code [.i64] c) [.i64] _ len (.lit (.ofNat 0)) (some (.nv j)), _⟩ => cond (IT.beq off (leftOff j) && IT.beq n (leftLen len) && sureC cs (.cmp .leq n (.lit 1000000)))
        (some [.ret (.slice (nl + 1) (.lit 0) n (.nv nl)) (H.set (nl + 1) ⟨.arr (.code [.i64] (.un 11 c (.lit 1))) [.i64] 3 n (.lit 0) (some (.nv nl)), true⟩) (nl + 2) cs]) none
      | _ => none
    | none => none
  | _ => none
theorem spLeft_ok {β : Base} : SpGOk Try.prog β 22 spLeft := by
  intro args H nl cs ls ρ w xs hr hx hh hc
  unfold spLeft at hr
  split at hr
  rotate_left
  · cases hr
  rename_i l off n cp
  simp only [AVal.denL] at hx
  cases hxd : (AVal.slice l off n cp).den ρ with
  | none => rw [hxd] at hx; cases hx
  | some xv =>
    rw [hxd] at hx; cases hx
    obtain ⟨b, o, m, cap, rfl, hN, ho, hn, hcp⟩ := den_slice hxd
    have hn : n.den ρ = some (m : Int) := hn
    split at hr
    · rename_i hl
      have := lookB_ok hl hc
      rw [cmpD hn (litD 1)] at this
      simp only [intCmp, Option.some.injEq, decide_eq_false_iff_not] at this
      obtain rfl : m = 0 := by omega
      cases hr
      refine (clone22z w b o cap).mono fun e w' ⟨⟨b', he⟩, hf⟩ => ?_
      have h1 := (hh.framed hf).num b'
      have hle := Env.le_put (b := b') (hh.fresh nl (Nat.le_refl _))
      exact ⟨_, he, _, _, _, _, ρ.put nl b', List.mem_cons_self, hle, den_slice_of (Env.put_same ..) rfl rfl rfl, h1, hc.mono hle⟩
    · rename_i hl
      have := lookB_ok hl hc
      rw [cmpD hn (litD 1)] at this
      simp only [intCmp, Option.some.injEq, decide_eq_true_eq] at this
      split at hr
      rotate_left
      · cases hr
      rename_i c el len j rw' hg
      cases hb : (IT.beq off (leftOff j) && IT.beq n (leftLen len) && sureC cs (.cmp .leq n (.lit 1000000))) with
      | false => rw [hb] at hr; cases hr
      | true =>
        rw [hb] at hr; cases hr
        simp only [Bool.and_eq_true] at hb
        obtain ⟨⟨h3, h4⟩, h5⟩ := hb
        obtain rfl := IT.beq_eq h3
        obtain rfl := IT.beq_eq h4
        have hmil : (m : Int) ≤ 1000000 := by
          have := Go.Vm.sureC_ok h5 hc
          rw [cmpD hn (litD _)] at this
          simpa only [intCmp, Option.some.injEq, decide_eq_true_eq] using this
        obtain ⟨b', ob, hb', hob, xs, c0, fr, el', m', st, rfl, _, hd, hst, ⟨_, hp⟩, hn', hty, ⟨N0, hN0, hroom⟩, _⟩ := hh.blk l _ hg
        rw [hN] at hb'; cases hb'
        obtain rfl : st = 0 := by have := Option.some.inj hst; exact (Int.ofNat.inj this).symm
        rw [List.drop_zero] at hp
        simp only [AT.den] at hd
        cases hcd : c.den ρ with
        | none => rw [hcd] at hd; cases hd
        | some y =>
          rw [hcd] at hd
          obtain rfl : rowOf [.i64] (decL y) = xs := Option.some.inj hd
          have hlen : (decL y).length = m' := by have := hty.1; rw [rowOf_length] at this; simpa using this
          have hn' : len.den ρ = some (m' : Int) := hn'
          have hm : m = m' - 1 ∧ 2 ≤ m' := by
            have := (unD (k := 14) hn' (litD 1)).symm.trans hn
            have e : univ 14 (m' : Int) 1 = if (1 : Int) ≤ (m' : Int) then (m' : Int) - 1 else 0 := rfl
            rw [e] at this
            by_cases hq : (1 : Int) ≤ (m' : Int)
            · rw [if_pos hq] at this; have := Option.some.inj this; omega
            · rw [if_neg hq] at this; have := Option.some.inj this; omega
          obtain ⟨hm, h2⟩ := hm
          have hsz : (rowOf [.i64] (decL y)).length ≤ c0.size := by simpa using hp.length_le
          rw [rowOf_length, hlen] at hsz
          have hcapN : N0 = c0.size := by
            have : c0.size - 0 = N0 * 1 := hroom
            omega
          have hi : (IT.un 13 (.lit 1) (.nv j)).den ρ = some ((1 : Nat) : Int) := by
            rw [unD (litD 1) hN0]
            have e : univ 13 1 (N0 : Int) = if (1 : Int) = (N0 : Int) then 0 else 1 := rfl
            rw [e, if_neg (by omega)]; rfl
          obtain rfl : o = 1 := by
            have := (elemD (sz := 1) (j := 0) (litD (ρ := ρ) ((0 : Nat) : Int)) hi).symm.trans ho
            have := Int.ofNat.inj (Option.some.inj this)
            omega
          have hl' : ((decL y).drop 1).length = m * 1 := by rw [List.length_drop, hlen]; omega
          refine (clone22 w b 1 m cap ((decL y).drop 1) hl' (by omega) fun q u hq => ?_).mono fun e w' ⟨v', he, hown, hnn, hbel⟩ => ?_
          · rw [cell_of w hob, ← prefix_get hp (o := 1 + q) (x := u)]
            rw [rowOf_get] at hq ⊢
            obtain ⟨z, hz, rfl⟩ := Option.map_eq_some_iff.1 hq
            rw [List.getElem?_drop] at hz
            rw [hz]
            simp [Nat.mod_one]
          · have ec : (IT.un 11 c (.lit 1)).den ρ = some (encL ((decL y).drop 1)) := unD hcd (litD 1)
            obtain ⟨ρ', hle, hd', hr'⟩ := row_inY hh (rowOut_owns hl' hown hnn (framed_of_below hbel)) hn ec (decL_encL _)
            exact ⟨v', he, _, _, _, _, ρ', List.mem_cons_self, hle, hd', hr', hc.mono hle⟩
    · cases hr
end Lm
end Go.Proofs.Ytpgonpjakllnjaa
end
