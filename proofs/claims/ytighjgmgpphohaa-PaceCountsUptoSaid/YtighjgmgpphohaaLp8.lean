/- Stocks (5): Give, Used, Len, High. -/
import Derived.Test.YtighjgmgpphohaaLp4
import Derived.Test.YtighjgmgpphohaaPc2
import Derived.Lib.Walk
import Derived.Lib.SliceRun
import Derived.Laws.AppendOwn
import Derived.WalkKit
import Derived.Deep.LoopGhost
section
namespace Go.Proofs.Ytighjgmgpphohaa
open Go.Vm Go.Vm.Le
namespace Lp
def GiveR (w : World) (b : Nat) (F : Nat -> Prop) (most : Int) (h : Nat) (K : List Int) (x : Int) (e : Ending) (w' : World) : Prop :=
 e = .returned (.int .i64 (if x ∈ K then 0 else 21)) /\ ∃ F', BigStep w w' F F' /\ StockIn w' b F' most h (K.erase x)
def opV (x : Int) : Value := .agg #[.int .i64 0, .int .i64 0, .int .i64 x]
theorem i9_den {ρ : Env} {y : Int} (h9 : ρ.I 9 = y) : (iV 9).den ρ = some (.int .i64 y) := by simp only [iV, AVal.den, IT.den, h9, Option.map_some]
section
variable {w : World} {b : Nat} {F : Nat -> Prop} {most : Int} {h : Nat} {B K : List Int} {ρ : Env} {x : Int}
theorem tN0_den {z : Value} (s : S02 z 0 most 0 h B K ρ) (hz : opN z 0 = x) : tN0.den ρ = some x := by rw [<- hz]; exact tN_den s
theorem push_nil (x : Int) : pushL [] x = [x] := by
 unfold pushL
 rw [upL]
 simp
theorem end_give {H0 : Bk} {σ : Sub} {r q : Nat} {T : Tpl} {B' K' : List Int} (hr0 : r ≠ 0) (hr2 : r ≠ 2) (hT : (eS (iV 9))[q]? = some T) (_hT0 : T.H.length = 3 -> True) (hTt : T.tm = [(0, iV 9)]) (hTn : T.nl = 5) (hg : (ofP T.H).get 0 = some (stB (.slice r (.lit 0) (.var 6) (.nv 4)))) (hg2 : (ofP T.H).get 2 = some mB) (hgr : (ofP T.H).get r = some rB) (hTc : T.cs = [])
 (hb : ρ.N 0 = some b) (h0l : 0 ∈ oL H0) (s' : Stk most h B' K') (m0 : 0 <= most) (m1 : most <= 65535) (hσN : ∀ ρ' : Env, ∀ l ∈ oL H0, (σ.app ρ').N l = ρ'.N l)
 (hd : ∀ ρ', ρ.Le ρ' -> GL.at ρ' -> GL.at (σ.app ρ') /\ (σ.app ρ').I 9 = 0 /\ (σ.app ρ').I 0 = most /\ (σ.app ρ').I 3 = (h : Int) /\ decL ((σ.app ρ').I 4) = usedL K' /\ (σ.app ρ').I 6 = (B'.length : Int) /\ (decL ((σ.app ρ').I 5)).take B'.length = B') {cs : Cs} :
 MGoodO Try.prog (βS w F) 73 (RS w b F most h K' (.int .i64 0)) (eS (iV 9)) [] ρ (.done q cs σ) := by
 refine doneR hT fun ρ' hle hG => ?_
 obtain ⟨g, i9, i0, i3, i4, i6, i5⟩ := hd ρ' hle hG
 refine ⟨g, by rw [hTc]; exact c0', fun y w' rr => ?_⟩
 have ht : (ofP T.tm).get 0 = some (iV 9) := by rw [hTt]; rfl
 obtain ⟨y1, hy, he⟩ := rr.t 0 (iV 9) ht
 obtain rfl : y = y1 := Option.some.inj he
 have hy2 := i9_den i9
 rw [hy] at hy2
 refine ⟨Option.some.inj hy2, ?_⟩
 have hN0 : (σ.app ρ').N 0 = some b := by rw [hσN ρ' 0 h0l]; exact hle.n _ _ hb
 have hh : HRel ⟨w, F, GL⟩ (σ.app ρ') (ofP T.H) 5 w' := by
  have := rr.h
  rw [show (T.st []).nl = 5 from hTn] at this
  exact this
 exact end_row hr0 hr2 hh hg hg2 hgr hN0 i0 i3 i4 i6 i5 s' m0 m1
end
theorem give11 {w : World} {b : Nat} {F : Nat -> Prop} {most : Int} {h : Nat} {K : List Int} (s : StockIn w b F most h K) (x : Int) : Calls Try.prog 73 #[.pointer (some ⟨b, 0, none⟩), .int .i64 x] w (GiveR w b F most h K x) := by
 obtain ⟨z, ρ, B, hr, s2, hrow, hnil, hF, hb, hz⟩ := start (opV x) s
 have hN : opN (opV x) 0 = x := rfl
 have tN1 : ∀ ρ', ρ.Le ρ' -> tN0.den ρ' = some x := fun ρ' hle => tN0_den (s2.of_le hle) hN
 have hxs : AVal.denL ρ [me, .int .i64 tN0] = some [.pointer (some ⟨b, 0, none⟩), .int .i64 x] := denL2 (me_den hb) (by simp only [AVal.den, tN1 ρ (Env.Le.refl ρ), Option.map_some])
 have hcs := csB_ok s2 hrow
 have m0 := s2.m0; have m1 := s2.m
 have hans : ∀ (y : IT) (k : Nat), (k = 0 ∨ k = 3 ∨ k = 4 ∨ k = 5 ∨ k = 6 ∨ k = 7 ∨ k = 11) -> lk [(9, y)] k = none := fun y k hk => by rcases hk with rfl | rfl | rfl | rfl | rfl | rfl | rfl <;> rfl
 by_cases hxK : x ∈ K
 · obtain ⟨s', _⟩ := s2.s.give hxK
   have hze : CRel ρ (ze (.var 4) tN0 true) := ze_ok s2 (tN1 ρ (Env.Le.refl ρ)) (decide_eq_true hxK)
   have fin : ∀ {e : Ending} {w' : World}, (∃ v, e = .returned v /\ RS w b F most h (K.erase x) (.int .i64 0) v w') -> GiveR w b F most h K x e w' := fun ⟨v, he, hv, hst⟩ => ⟨by rw [he, hv, if_pos hxK], hst⟩
   have none0 : ∀ (z : Bk), z ≠ .row -> oL z = [0, 2] := fun z hz => by cases z <;> first | rfl | exact absurd rfl hz
   have empty : ∀ (z : Bk) (hzr : z ≠ .row), B = [] -> MGoodO Try.prog (βS w F) 73 (RS w b F most h (K.erase x) (.int .i64 0)) (eS (iV 9)) [] ρ (.done 0 [] sgA) := fun z hzr hB => by
    subst hB
    rw [push_nil] at s'
    refine end_give (H0 := z) (r := 1) (T := ⟨[(0, iV 9)], 1, hB .row, 5, [], 0⟩) (by decide) (by decide) rfl (fun _ => trivial) rfl rfl rfl rfl rfl rfl hb (by rw [none0 z hzr]; simp) s' m0 m1 (fun ρ' l hl => ?_) (fun ρ' hle hG => ⟨hG, sbI (t := .lit 0) rfl rfl, sbI (t := .var 0) rfl (congrArg some (s2.of_le hle).i0), sbI (t := .var 3) rfl (congrArg some (s2.of_le hle).i3), ?_, sbI (t := .lit 1) rfl rfl, ?_⟩)
    · rw [none0 z hzr] at hl
      simp only [List.mem_cons, List.not_mem_nil, or_false] at hl
      rcases hl with rfl | rfl <;> rfl
    · rw [sbI (t := .un 8 (.var 4) tN0) rfl (del_den (s2.of_le hle) (tN1 ρ' hle)), decL_encL]
    · have e5 : (IT.un 3 (.lit 0) tN0).den ρ' = some (encL [x]) := by rw [unD (litD 0) (tN1 ρ' hle)]; rfl
      rw [sbI (t := .un 3 (.lit 0) tN0) rfl e5, decL_encL]; rfl
   cases z with
   | nil => exact (calls_sumsE (β := βS w F) (R := RS w b F most h (K.erase x) (.int .i64 0)) (g := gS) (L := oL .nil) (Rs := eS (iV 9)) (Ts := []) (pl := true) noCount noExt (sp8_ok w F) follows Try.func73 rfl v_nil hxs hr (CRel_app.2 ⟨hze, hcs⟩) (one (empty .nil (by simp) (hnil (by simp))))).mono fun _ _ => fin
   | zero => exact (calls_sumsE (β := βS w F) (R := RS w b F most h (K.erase x) (.int .i64 0)) (g := gS) (L := oL .zero) (Rs := eS (iV 9)) (Ts := []) (pl := true) noCount noExt (sp8_ok w F) follows Try.func73 rfl v_zero hxs hr (CRel_app.2 ⟨hze, hcs⟩) (one (empty .zero (by simp) (hnil (by simp))))).mono fun _ _ => fin
   | row =>
    have r := hrow rfl
    have hbl := s2.bl
    have hpl : (pushL B x).length = B.length + 1 := by
     have := (push_ok (x := x) s2.s.heap).2.length_eq
     simpa using this
    refine (calls_sumsE (β := βS w F) (R := RS w b F most h (K.erase x) (.int .i64 0)) (g := gS) (L := oL .row) (Rs := eS (iV 9)) (Ts := []) (pl := true) noCount noExt (sp8_ok w F) follows Try.func73 rfl v_row hxs hr (CRel_app.2 ⟨CRel_app.2 ⟨fQ_ok r hbl, hze⟩, hcs⟩)
     (one (end_give (H0 := .row) (r := 3) (T := ⟨[(0, iV 9)], 1, hB3, 5, [], 0⟩) (by decide) (by decide) rfl (fun _ => trivial) rfl rfl rfl rfl rfl rfl hb (by simp [oL]) s' m0 m1 (fun ρ' l hl => ?_) (fun ρ' hle hG => ⟨hG, sbI (t := .lit 0) rfl rfl, sbI (t := .var 0) rfl (congrArg some (s2.of_le hle).i0), sbI (t := .var 3) rfl (congrArg some (s2.of_le hle).i3), ?_, ?_, ?_⟩)))).mono fun _ _ => fin
    · simp only [oL, List.mem_cons, List.not_mem_nil, or_false] at hl
      rcases hl with rfl | rfl | rfl <;> rfl
    · rw [sbI (t := .un 8 (.var 4) tN0) rfl (del_den (s2.of_le hle) (tN1 ρ' hle)), decL_encL]
    · rw [sbI (t := h6) rfl (j6_den (r.of_le hle) hbl).1, hpl]
    · rw [sbI (t := psh (.un 10 (.var 5) (.var 6)) j6) rfl (psh_den hG (r.of_le hle) (s2.of_le hle) hbl), decL_encL, hN]
      exact List.take_length
 · have he : K.erase x = K := List.erase_of_not_mem hxK
   refine (calls_sumsE (β := βS w F) (R := RS w b F most h K (.int .i64 21)) (g := gS) (L := oL z) (Rs := eS (iV 9)) (Ts := []) (pl := true) noCount noExt (sp8_ok w F) follows Try.func73 rfl (v_no z) hxs hr (CRel_app.2 ⟨ze_ok s2 (tN1 ρ (Env.Le.refl ρ)) (decide_eq_false hxK), hcs⟩)
    (one (endS (x4 := ρ.I 4) (x5' := ρ.I 5) hb hz s2 (hans _) s2.s hnil (fun ρ' hle _ => congrArg some (s2.of_le hle).i3) (fun ρ' hle _ => by show some (ρ'.I 4) = _; rw [hle.i]) s2.i4 (fun e ρ' hle _ => congrArg some ((hrow e).of_le hle).i6) (fun e ρ' hle _ => by show some (ρ'.I 5) = _; rw [hle.i]) (fun e => (hrow e).i5) (fun ρ' hle hG' => i9_den (sbI (t := .lit 21) (by cases z <;> rfl) rfl))))).mono fun e w' ⟨y, hee, hy, hst⟩ => ⟨by rw [hee, hy, if_neg hxK], by rw [he]; exact hst⟩
section
variable {w : World} {b : Nat} {F : Nat -> Prop} {most : Int} {h : Nat} {K : List Int}
end
end Lp
end Go.Proofs.Ytighjgmgpphohaa
end
section
namespace Go.Proofs.Ytighjgmgpphohaa
open Go.Vm Go.RowKit Go.Lib
namespace Lp
theorem framed_of_below {w w' : World} (h : Below w.heap.size w w') : Framed w w' := by
 obtain ⟨h1, h2, h3, h4, h5⟩ := h
 exact ⟨h4, h5, h2, h1, h3⟩
theorem rowOut_owns {w w' : World} {v' : Value} {e : TypeId} {ks : List IntKind} {L : List Int} {m : Nat} (hl : L.length = m * ks.length) (h : w'.ownsRow w.heap.size e ks.length v' m (rowOf ks L)) (hnn : v' ≠ .slice none 0 0) (hf : Framed w w') : RowOut w w' v' e ks L m := by
 obtain ⟨_, h⟩ := h
 rcases h with ⟨h1, _⟩ | ⟨g, cap, cur, rfl, hg, hc, _, _, hs, ht⟩
 · exact absurd h1 hnn
 · refine ⟨hf, hl, g, cap, cur, (0, 0), rfl, hg, hc, ?_, hs, .inl (Nat.le_refl _)⟩
   rw [<- ht]; exact List.take_prefix _ _
theorem one_cell {ks : List IntKind} {L : List Int} : ∀ u ∈ rowOf ks L, u.oneCell' = true := by
 intro u hu
 obtain ⟨i, hi⟩ := List.getElem?_of_mem hu
 rw [rowOf_get] at hi
 obtain ⟨z, _, rfl⟩ := Option.map_eq_some_iff.1 hi
 rfl
theorem infoOf {P : Program} {t : TypeId} {z : Value} {s b : Nat} (h : (P.info? t).map (fun i => (i.zero, i.size, i.bytes)) = some (some z, s, b)) : ∃ i, P.info? t = some i /\ i.zero = some z /\ i.size = s /\ i.bytes = b := by
 obtain ⟨i, hi, he⟩ := Option.map_eq_some_iff.1 h
 simp only [Prod.mk.injEq] at he
 exact ⟨i, hi, he.1, he.2.1, he.2.2⟩
theorem info3 : (Try.prog.info? 3).map (fun i => (i.zero, i.size, i.bytes)) = some (some (.int .i64 0), 1, 8) := by kernel_rfl
set_option maxHeartbeats 2000000 in
set_option maxRecDepth 100000 in
theorem clone19 (w : World) (b off n c : Nat) (L : List Int) (hl : L.length = n * 1) (hn : n <= 1000000) (hc : ∀ (j : Nat) u, (rowOf [.i64] L)[j]? = some u -> w.cell? ⟨b, off + j, none⟩ = some u) :
 Calls Try.prog 61 #[.slice (some ⟨b, off, none⟩) n c] w fun e w' => ∃ v', e = .returned v' /\ w'.ownsRow w.heap.size 3 1 v' n (rowOf [.i64] L) /\ v' ≠ .slice none 0 0 /\ Below w.heap.size w w' := by
 obtain ⟨i0, hi, hz0, hz1, hz2⟩ := infoOf info3
 have q22 : ∀ (w : World) (a : Option Addr) (n c n' c' : Nat), (binOp .eql 101 (.slice a n c) (.slice none n' c')).run Try.prog w = .ok (.bool a.isNone) w := fun w a n c n' c' => Lib.run_eql_slice_nil w _ _ a n c n' c' Try.underlying101
 have hlen : (rowOf [.i64] L).length = n := by rw [rowOf_length, hl]; omega
 have h1 := one_cell (ks := [.i64]) (L := L)
 have A : Aside (∀ (j : Nat) u, (rowOf [.i64] L)[j]? = some u -> w.cell? ⟨b, off + j, none⟩ = some u) := hc
 clear hc hl
 generalize rowOf [.i64] L = xs at A h1 hlen ⊢
 go_enter Try.func61, Try.ntmps61
 go_wp2_with (at_builtin; refine wpList_append_own _ rfl _ _ 101 rfl w.heap.size 3 i0 (.int .i64 0) 1 8 Try.underlying101 hi hz0 hz1 hz2 rfl (by decide) _ _ _ rfl (World.ownsRow_made w #[] 0 (Nat.le_refl _) (Nat.zero_le _) rfl) ⟨b, off, none⟩ n c xs rfl ?qc1 ?qc2 ?qc3 ?qc4 ?qc5 ?qc6 ?_)
 case qc1 => rw [hlen]; omega
 case qc2 =>
  intro j u hj
  rw [Addr.add_lit]
  exact Lib.cell?_alloc_some _ (A.out j u hj)
 case qc3 => exact h1
 case qc4 => unfold maxLen; omega
 case qc5 => omega
 case qc6 => simp
 intro v' w1 hown hgrow hnil
 go_wp2
 go_ret
 refine ⟨v', rfl, by simpa using hown, ?_, ?_⟩
 · exact hnil
 · exact ((Below.refl _ w).alloc (Nat.le_refl _) _).grown hgrow (by simp) (by intro k hk; simp [Value.ownBlock] at hk; omega)
theorem clone19n (w : World) : Calls Try.prog 61 #[.slice none 0 0] w fun e w' => e = .returned (.slice none 0 0) /\ Framed w w' := by
 have q22 : ∀ (w : World) (a : Option Addr) (n c n' c' : Nat), (binOp .eql 101 (.slice a n c) (.slice none n' c')).run Try.prog w = .ok (.bool a.isNone) w := fun w a n c n' c' => Lib.run_eql_slice_nil w _ _ a n c n' c' Try.underlying101
 go_enter Try.func61, Try.ntmps61
 go_wp2
 go_ret
 exact ⟨rfl, Framed.refl w⟩
theorem row_inY {β : Base} {ρ : Env} {H : Heap} {nl : Nat} {w w' : World} {x : Value} {nT c : IT} {e : TypeId} {ks : List IntKind} {L : List Int} {m : Nat} {y : Int} (h : HRel β ρ H nl w) (r : RowOut w w' x e ks L m) (hn : nT.den ρ = some (m : Int)) (hc : c.den ρ = some y) (hy : decL y = L) :
 ∃ ρ', ρ.Le ρ' /\ (AVal.slice (nl + 1) (.lit 0) nT (.nv nl)).den ρ' = some x /\ HRel β ρ' (H.set (nl + 1) ⟨.arr (.code ks c) ks e nT (.lit 0) (some (.nv nl)), true⟩) (nl + 2) w' := by
 obtain ⟨b, cap, c0, f, rfl, hb, hob, hp, hcs, hf⟩ := r.row
 have h1 := h.num cap
 have hle1 : ρ.Le (ρ.put nl cap) := Env.le_put (h.fresh nl (Nat.le_refl _))
 have hle2 : (ρ.put nl cap).Le ((ρ.put nl cap).put (nl + 1) b) := Env.le_put (h1.fresh _ (Nat.le_refl _))
 have hcapd : (IT.nv nl).den ((ρ.put nl cap).put (nl + 1) b) = some (cap : Int) := by
  have : ((ρ.put nl cap).put (nl + 1) b).N nl = some cap := hle2.n _ _ (Env.put_same ..)
  simp only [IT.den, this]; rfl
 have hrel : (ABlk.arr (.code ks c) ks e nT (.lit 0) (some (.nv nl))).rel ((ρ.put nl cap).put (nl + 1) b) true (.cells c0 e f) := by
  refine ⟨rowOf ks L, c0, f, e, m, 0, rfl, fun _ => rfl, ?_, rfl, ⟨Nat.zero_le _, by rw [List.drop_zero]; exact hp⟩, IT.den_mono (hle1.trans hle2) hn, rowOf_typed r.len, ⟨cap, hcapd, by rw [Nat.sub_zero]; exact hcs⟩, fun _ => hf⟩
  simp only [AT.den, IT.den_mono (hle1.trans hle2) hc, Option.map_some, hy]
 refine ⟨_, hle1.trans hle2, ?_, h1.adopt r.fr hb hob hrel⟩
 have e1 : natOf (nT.den ((ρ.put nl cap).put (nl + 1) b)) = some m := by rw [IT.den_mono (hle1.trans hle2) hn]; rfl
 have e2 : natOf ((IT.nv nl).den ((ρ.put nl cap).put (nl + 1) b)) = some cap := by rw [hcapd]; rfl
 have e0 : natOf ((IT.lit 0).den ((ρ.put nl cap).put (nl + 1) b)) = some 0 := rfl
 have e3 : ((ρ.put nl cap).put (nl + 1) b).N (nl + 1) = some b := Env.put_same ..
 simp only [AVal.den, e0, e1, e2, e3]
theorem sureC_ok {ρ : Env} {cs : Cs} {op : BinOp} {n : IT} {z : Int} {x : Int} (h : sureC cs (.cmp op n (.lit z)) = true) (hs : Go.Vm.sure (.cmp op n (.lit z)) = false) (hc : CRel ρ cs) (hn : n.den ρ = some x) : intCmp op x z = some true := by
 simp only [sureC, hs, Bool.false_or] at h
 split at h
 · rename_i b hb
   subst h
   have := lookB_ok hb hc
   simpa only [BT.den, hn, IT.den] using this
 · cases h
theorem whole_row {β : Base} {ρ : Env} {H : Heap} {nl : Nat} {w : World} {l : Nat} {n cp : IT} {t : AT} {ks : List IntKind} {el : TypeId} {off : IT} {cp' : Option IT} {rw : Bool} {c : IT} {xv : Value} (hh : HRel β ρ H nl w) (hg : H.get l = some ⟨.arr t ks el n off cp', rw⟩) (hcT : t.codeT = some c) (hx : (AVal.slice l off n cp).den ρ = some xv) :
 ∃ b o m cap, ∃ y : Int, xv = .slice (some ⟨b, o, none⟩) m cap /\ n.den ρ = some (m : Int) /\ c.den ρ = some y /\ (decL y).length = m * ks.length /\ (∃ c0 fr el', w.heap[b]? = some (.cells c0 el' fr) /\ o <= c0.size /\ rowOf ks (decL y) <+: c0.toList.drop o) /\ ∀ (j : Nat) u, (rowOf ks (decL y))[j]? = some u -> w.cell? ⟨b, o + j, none⟩ = some u := by
 obtain ⟨b, o, m, cap, rfl, hN, ho, hn, _⟩ := den_slice hx
 obtain ⟨b', ob, hb', hob, xs, c0, fr, el', m', st, rfl, _, hd, hst, ⟨h4, h5⟩, hn', hty, _, _⟩ := hh.blk l _ hg
 rw [hN] at hb'; cases hb'
 have e1 : m' = m := by have := hn'.symm.trans hn; exact Int.ofNat.inj (Option.some.inj this)
 have e2 : st = o := by have := hst.symm.trans ho; exact Int.ofNat.inj (Option.some.inj this)
 subst e1; subst e2
 obtain ⟨y, hy, hyx⟩ := codeT_ok hcT hd
 have hxs : rowOf ks (decL y) = xs := by rw [hyx]; exact hty.rowOf.symm
 refine ⟨b, st, m', cap, y, rfl, hn, hy, by rw [hyx, List.length_map]; exact hty.1, ⟨c0, fr, el', hob, h4, by rw [hxs]; exact h5⟩, fun j u hj => ?_⟩
 rw [hxs] at hj
 rw [cell_of w hob]
 obtain ⟨q, hq⟩ := h5
 have : (c0.toList.drop st)[j]? = some u := by
  rw [<- hq, List.getElem?_append_left (List.getElem?_eq_some_iff.1 hj).1]; exact hj
 rw [List.getElem?_drop] at this
 simpa using this
theorem spClone_ok {β : Base} {g : FuncId} {ks : List IntKind} {el : TypeId} (h0 : ∀ w, Calls Try.prog g #[.slice none 0 0] w fun e w' => e = .returned (.slice none 0 0) /\ Framed w w')
 (h : ∀ (w : World) (b off n c : Nat) (L : List Int), L.length = n * ks.length -> n <= 1000000 -> (∀ (j : Nat) u, (rowOf ks L)[j]? = some u -> w.cell? ⟨b, off + j, none⟩ = some u) ->
  Calls Try.prog g #[.slice (some ⟨b, off, none⟩) n c] w fun e w' => ∃ v', e = .returned v' /\ w'.ownsRow w.heap.size el ks.length v' n (rowOf ks L) /\ v' ≠ .slice none 0 0 /\ Below w.heap.size w w') : SpGOk Try.prog β g (spClone ks el) := by
 intro args H nl cs ls ρ w xs hr hx hh hc
 unfold spClone at hr
 split at hr
 · cases hr; cases hx
   exact spV_ok (h0 w) rfl hh hc
 · rename_i l off n cp
   split at hr
   rotate_left
   · cases hr
   rename_i t ks' el' n' o' cp' rw hg
   split at hr
   rotate_left
   · cases hr
   rename_i c hcT
   cases hb : (decide (ks = ks') && IT.beq n n' && IT.beq off o' && sureC cs (.cmp .geq n (.lit 1)) && sureC cs (.cmp .leq n (.lit 1000000))) with
   | false => rw [hb] at hr; cases hr
   | true =>
    rw [hb] at hr; cases hr
    simp only [Bool.and_eq_true, decide_eq_true_eq] at hb
    obtain ⟨⟨⟨⟨rfl, h2⟩, h3⟩, h4⟩, h5⟩ := hb
    obtain rfl := IT.beq_eq h2
    obtain rfl := IT.beq_eq h3
    simp only [AVal.denL] at hx
    cases hxd : (AVal.slice l off n cp).den ρ with
    | none => rw [hxd] at hx; cases hx
    | some xv =>
     rw [hxd] at hx; cases hx
     obtain ⟨b, o, m, cap, y, rfl, hn, hy, hl, _, hcell⟩ := whole_row hh hg hcT hxd
     have hm : m <= 1000000 := by
      by_cases hs : Go.Vm.sure (.cmp .leq n (.lit 1000000)) = true
      · unfold Go.Vm.sure at hs
        split at hs
        · rename_i heq
          cases heq
          split at hs
          · rename_i k hk
            have := szB_ok ρ hk
            simp only [IT.den, Option.some.injEq] at hn
            simp only [iLt_eq, Bool.not_eq_true', decide_eq_false_iff_not, Int.ofNat_eq_natCast] at hs
            omega
          · cases hs
        · cases hs
      · have := sureC_ok h5 (by simpa using hs) hc hn
        simp only [intCmp, Option.some.injEq, decide_eq_true_eq] at this
        omega
     refine (h w b o m cap (decL y) hl hm hcell).mono fun e w' ⟨v', he, hown, hnn, hbel⟩ => ?_
     obtain ⟨ρ', hle, hd, hr'⟩ := row_inY hh (rowOut_owns hl hown hnn (framed_of_below hbel)) hn hy rfl
     exact ⟨v', he, _, _, _, _, ρ', List.mem_cons_self, hle, hd, hr', hc.mono hle⟩
 · cases hr
theorem sp19_ok {β : Base} : SpGOk Try.prog β 61 (spClone [.i64] 3) := spClone_ok clone19n fun w b off n c L hl hn hc => clone19 w b off n c L hl hn hc
end Lp
end Go.Proofs.Ytighjgmgpphohaa
end
section
namespace Go.Proofs.Ytighjgmgpphohaa
open Go.Vm Go.Vm.Le
namespace Lp
def nB (v : AVal) : HB := ⟨.cells [iV 0, iV 3, v, .map 11] 103 none, true⟩
def nM : HB := ⟨.mapc (.var 4), true⟩
def nR : HB := ⟨.arr (.code [.i64] (.var 5)) [.i64] 3 (.var 6) (.lit 0) (some (.nv 13)), true⟩
def nv : Bk -> AVal
 | .nil => .sliceNil
 | .zero => .slice 12 (.lit 0) (.lit 0) (.lit 0)
 | .row => .slice 12 (.lit 0) (.var 6) (.nv 13)
def hN : Bk -> List (Nat × HB)
 | .row => [(10, nB (nv .row)), (11, nM), (12, nR)]
 | z => [(10, nB (nv z)), (11, nM)]
def eN (u : AVal) : List Tpl := [⟨[(0, u)], 1, hN .row, 14, [], 0⟩, ⟨[(0, u)], 1, hN .nil, 14, [], 0⟩, ⟨[(0, u)], 1, hN .zero, 14, [], 0⟩]
def cv : Bk -> AVal
 | .nil => .sliceNil
 | .zero => .slice 1 (.var 11) (.lit 0) (.var 12)
 | .row => .slice 1 (.lit 0) (.var 6) (.nv 4)
def cL (z : Bk) : List (Nat × ABlk) := match z with
 | .row => [(0, .cells [iV 0, iV 3, cv .row, .map 2] 103 none), (2, .mapc (.var 4)), (1, .arr (.code [.i64] (.var 5)) [.i64] 3 (.var 6) (.lit 0) none)]
 | z => [(0, .cells [iV 0, iV 3, cv z, .map 2] 103 none), (2, .mapc (.var 4))]
def fC : Cs := [(.cmp .geq (.var 6) (.lit 1), true), (.cmp .leq (.var 6) (.lit 1000000), true)]
def fW : Cs := [(.cmp .lss (.var 0) (.lit 0), false), (.cmp .gtr (.var 0) (.lit 65535), false)]
def spC : CallF := spL [(61, spClone [.i64] 3)]
def spC0 : CallF := spL []
def xC : Exts := [(69, .mapsClone)]
end Lp
end Go.Proofs.Ytighjgmgpphohaa
end
section
namespace Go.Proofs.Ytighjgmgpphohaa
open Go.Vm Go.Vm.Le
namespace Lp
section
variable {w w' : World} {G : GP} {ρ : Env} {H : Heap} {most : Int} {h nl : Nat} {B K : List Int}
theorem new_ge (hr : HRel ⟨w, noO, G⟩ ρ H nl w') {l y : Nat} {k : HB} (hl : H.get l = some k) (hk : k.rw = true) (hy : ρ.N l = some y) : w.heap.size <= y := by
 rcases hr.own l k y hl hk hy with h1 | h1
 · exact h1
 · cases h1
theorem newCells {v : AVal} (hr : HRel ⟨w, noO, G⟩ ρ H nl w') (hg : H.get 10 = some (nB v)) (h0 : ρ.I 0 = most) (h3 : ρ.I 3 = (h : Int)) {vb : Value} (hv : v.den ρ = some vb) {bm : Nat} (h2 : ρ.N 11 = some bm) :
 ∃ b c fr, ρ.N 10 = some b /\ w'.heap[b]? = some (.cells c 103 fr) /\ c.toList = [.int .i64 most, .int .i64 h, vb, .map (some bm)] /\ (fr.2 <= fr.1 ∨ c.size <= fr.1) := by
 obtain ⟨b, o, hb, ho, xs, c, fr, rfl, hd, hp, ht, hf⟩ := hr.blk 10 _ hg
 have e0 : (iV 0).den ρ = some (.int .i64 most) := by simp only [iV, AVal.den, IT.den, h0, Option.map_some]
 have e3 : (iV 3).den ρ = some (.int .i64 h) := by simp only [iV, AVal.den, IT.den, h3, Option.map_some]
 have e2 : (AVal.map 11).den ρ = some (.map (some bm)) := by simp only [AVal.den, h2, Option.map_some]
 simp only [AVal.denL, e0, e3, hv, e2, Option.some.injEq] at hd
 subst hd
 refine ⟨b, c, fr, hb, ho, ?_, hf rfl⟩
 obtain ⟨t, ht'⟩ := hp
 have hl : c.toList.length = 4 := by
  have : c.size = 4 := ht
  simpa using this
 rw [<- ht'] at hl ⊢
 have : t = [] := by
  cases t with
  | nil => rfl
  | cons a t => simp at hl
 rw [this, List.append_nil]
theorem newMap (hr : HRel ⟨w, noO, G⟩ ρ H nl w') (hg : H.get 11 = some nM) (h4 : decL (ρ.I 4) = usedL K) : ∃ bm es cl, ρ.N 11 = some bm /\ w'.heap[bm]? = some (.map es cl) /\ es.toList.map (fun e => (e.key, e.val)) = K.map (fun k => (Value.int .i64 k, Value.int .i64 1)) /\ BornM es cl := by
 obtain ⟨bm, o, hbm, ho, x, es, cl, rfl, hx, he, hbn⟩ := hr.blk 11 _ hg
 refine ⟨bm, es, cl, hbm, ho, ?_, hbn⟩
 have hx : ρ.I 4 = x := Option.some.inj hx
 rw [<- entOf_used, <- h4, hx]
 exact he
def NewR (w w' : World) (b : Nat) (most : Int) (h : Nat) (K : List Int) : Prop := ∃ F', StockIn w' b F' most h K /\ ∀ y, F' y -> w.heap.size <= y
theorem new_none {v : AVal} (hr : HRel ⟨w, noO, G⟩ ρ H nl w') (hg : H.get 10 = some (nB v)) (hg2 : H.get 11 = some nM) (h0 : ρ.I 0 = most) (h3 : ρ.I 3 = (h : Int)) (h4 : decL (ρ.I 4) = usedL K) {a : Option Addr} (hv : v.den ρ = some (.slice a 0 0)) (ha : ∀ p, a = some p -> p.spot = none) (s : Stk most h [] K) (m0 : 0 <= most) (m1 : most <= 65535) :
 ∃ b, ρ.N 10 = some b /\ NewR w w' b most h K := by
 obtain ⟨bm, es, cl, hbm, hom, he, hbn⟩ := newMap hr hg2 h4
 obtain ⟨b, c, fr, hb, hob, hc, hf⟩ := newCells hr hg h0 h3 hv hbm
 refine ⟨b, hb, fun y => y = b ∨ y = bm, ⟨⟨[], c, fr, .slice a 0 0, bm, es, cl, hob, hc, hf, hom, he, hbn, s, ?_, .inl ⟨a, rfl, ha, rfl, fun _ => Iff.rfl⟩⟩, m0, m1⟩, fun y hy => ?_⟩
 · intro e
   have := hr.inj 10 11 _ _ hg hg2 rfl (by rw [hb, hbm, e])
   cases this
 · rcases hy with rfl | rfl
   · exact new_ge hr hg rfl hb
   · exact new_ge hr hg2 rfl hbm
theorem new_row (hr : HRel ⟨w, noO, G⟩ ρ H nl w') (hg : H.get 10 = some (nB (nv .row))) (hg2 : H.get 11 = some nM) (hgr : H.get 12 = some nR) (h0 : ρ.I 0 = most) (h3 : ρ.I 3 = (h : Int)) (h4 : decL (ρ.I 4) = usedL K) (h6 : ρ.I 6 = (B.length : Int)) (h5 : decL (ρ.I 5) = B) (s : Stk most h B K) (m0 : 0 <= most) (m1 : most <= 65535) :
 ∃ b, ρ.N 10 = some b /\ NewR w w' b most h K := by
 obtain ⟨bm, es, cl, hbm, hom, he, hbn⟩ := newMap hr hg2 h4
 obtain ⟨b1, o1, hb1, ho1, xs, c1, fr1, el1, m1', st, rfl, hel, hd, hst, ⟨hsz, hp⟩, hn, hty, ⟨cap, hcap, hroom⟩, hf1⟩ := hr.blk 12 _ hgr
 obtain rfl : st = 0 := by have := Option.some.inj hst; exact (Int.ofNat.inj this).symm
 rw [List.drop_zero] at hp
 have hel := hel rfl
 subst hel
 have hx5 : xs = rowOf [.i64] (decL (ρ.I 5)) := (Option.some.inj hd).symm
 subst hx5
 have hv : (nv .row).den ρ = some (.slice (some ⟨b1, 0, none⟩) B.length cap) := den_slice_of hb1 rfl (congrArg some h6) hcap
 obtain ⟨b, c, fr, hb, hob, hc, hf⟩ := newCells hr hg h0 h3 hv hbm
 refine ⟨b, hb, fun y => y = b ∨ y = bm ∨ y = b1, ⟨⟨B, c, fr, _, bm, es, cl, hob, hc, hf, hom, he, hbn, s, ?_, .inr ⟨b1, cap, B, _, rfl, ho1, ⟨c1, fr1, rfl, by rw [<- rowOf1, <- h5]; exact hp, ?_, hf1 rfl⟩, List.take_length, ?_, ?_, fun _ => Iff.rfl⟩⟩, m0, m1⟩, fun y hy => ?_⟩
 · intro e
   have := hr.inj 10 11 _ _ hg hg2 rfl (by rw [hb, hbm, e])
   cases this
 · have : c1.size - 0 = cap * 1 := hroom
   omega
 · intro e
   have := hr.inj 12 10 _ _ hgr hg rfl (by rw [hb1, hb, e])
   cases this
 · intro e
   have := hr.inj 12 11 _ _ hgr hg2 rfl (by rw [hb1, hbm, e])
   cases this
 · rcases hy with rfl | rfl | rfl
   · exact new_ge hr hg rfl hb
   · exact new_ge hr hg2 rfl hbm
   · exact new_ge hr hgr rfl hb1
end
theorem ext_ok : ExtOk Try.prog xC := by
 intro g k h
 simp only [xC, Exts.get] at h
 cases hb : Nat.beq 69 g with
 | false => rw [hb] at h; cases h
 | true =>
  rw [hb] at h; cases h
  obtain rfl := Nat.eq_of_beq_eq_true hb
  exact ⟨_, Try.func69, rfl, by kernel_rfl, by kernel_rfl⟩
def kR (z : Bk) : Sub := ⟨[(0, .var 0), (3, .var 3)] ++ z.pick [] [] [(6, .var 6)] ++ [(4, .var 4)] ++ z.pick [] [] [(5, .var 5)], [], [], [], z.pick [(10, 6), (11, 5)] [(10, 7), (12, 5), (11, 6)] [(10, 8), (12, 6), (13, 5), (11, 7)]⟩
def cLH (z : Bk) : List (Nat × HB) := (cL z).map fun p => (p.1, ⟨p.2, false⟩)
theorem c_run (z : Bk) : (run Try.prog xC spC 4000 true 48 (entry Try.f48 (Try.f48.body.getD .ret) [me] (ofP (cLH z)) 5 (z.pick [] [] fC))).map (·.filterMap (sumMD gS [] (eN (.ptr 10 (.lit 0))) [])) = some [.done (qz z) [] (kR z)] ∨ z ≠ .row := by
 cases z with
 | row => exact .inl (by kernel_rfl)
 | nil => exact .inr (by simp)
 | zero => exact .inr (by simp)
theorem c_run0 (z : Bk) : (run Try.prog xC spC0 4000 true 48 (entry Try.f48 (Try.f48.body.getD .ret) [me] (ofP (cLH z)) 5 [])).map (·.filterMap (sumMD gS [] (eN (.ptr 10 (.lit 0))) [])) = some [.done (qz z) [] (kR z)] ∨ z = .row := by
 cases z with
 | row => exact .inr rfl
 | nil => exact .inl (by kernel_rfl)
 | zero => exact .inl (by kernel_rfl)
def kN : Sub := ⟨[(9, .lit 0), (0, .var 0), (3, .lit 0), (4, .lit 0)], [], [], [], [(10, 1), (11, 0)]⟩
theorem n_run : (run Try.prog xC spC0 4000 true 39 (entry Try.f39 (Try.f39.body.getD .ret) [iV 0] .leaf 0 fW)).map (·.filterMap (sumMD gS [] (eN (.tuple [.ptr 10 (.lit 0), iV 9])) [])) = some [.done 1 [] kN] := by kernel_rfl
theorem new7 (w : World) (most : Int) (m0 : 0 <= most) (m1 : most <= 65535) : Calls Try.prog 39 #[.int .i64 most] w (fun e w' => ∃ b, e = .returned (.tuple #[.pointer (some ⟨b, 0, none⟩), .int .i64 0]) /\ NewR w w' b most 0 [] /\ Framed w w') := by
 obtain ⟨ρ, hρ⟩ : ∃ ρ : Env, ρ = ⟨fun _ => most, fun _ => false, fun _ => default, fun _ => undef, fun _ => none, F0⟩ := ⟨_, rfl⟩
 have e0 : (IT.var 0).den ρ = some most := by rw [hρ]; rfl
 refine (calls_sumsE (β := .plain w) (R := fun x w' => ∃ b, x = .tuple #[.pointer (some ⟨b, 0, none⟩), .int .i64 0] /\ NewR w w' b most 0 [] /\ Framed w w') (g := gS) (L := []) (Rs := eN (.tuple [.ptr 10 (.lit 0), iV 9])) (Ts := []) (pl := true) noCount ext_ok (noSpB _) follows Try.func39 rfl n_run (denL1 (by simp only [iV, AVal.den, e0, Option.map_some])) (HRel.start w ρ fun i => by rw [hρ]) (c1 (lssF e0 (litD 0) m0) (c1 (gtrF e0 (litD 65535) m1) c0'))
  (one (doneR (T := ⟨[(0, .tuple [.ptr 10 (.lit 0), iV 9])], 1, hN .nil, 14, [], 0⟩) rfl fun ρ' hle hG => ⟨trivial, c0', fun x w' r => ?_⟩))).mono fun e w' ⟨v, he, b, hv, h⟩ => ⟨b, by rw [he, hv], h⟩
 obtain ⟨y, hy, he⟩ := r.t 0 _ rfl
 obtain rfl : x = y := Option.some.inj he
 have i0 : (kN.app ρ').I 0 = most := sbI (t := .var 0) rfl (by show some (ρ'.I 0) = _; rw [hle.i, hρ])
 have i3 : (kN.app ρ').I 3 = ((0 : Nat) : Int) := sbI (t := .lit 0) rfl rfl
 have i4 : decL ((kN.app ρ').I 4) = usedL [] := by rw [sbI (t := .lit 0) rfl (litD 0)]; exact decL_zero
 obtain ⟨b, hb, hn⟩ := new_none (v := .sliceNil) r.h rfl rfl i0 i3 i4 (a := none) rfl (fun _ e => by cases e) (Stk.new m0) m0 m1
 refine ⟨b, ?_, hn, Framed.of r.h⟩
 have hp : (AVal.ptr 10 (.lit 0)).den (kN.app ρ') = some (.pointer (some ⟨b, 0, none⟩)) := by simp only [AVal.den, hb]; rfl
 have h9 := i9_den (ρ := kN.app ρ') (y := 0) (sbI (t := .lit 0) rfl rfl)
 simp only [AVal.den, AVal.denL] at hy hp h9
 rw [hp, h9] at hy
 exact (Option.some.inj hy).symm
section
variable {w : World} {b : Nat} {F : Nat -> Prop} {most : Int} {h : Nat} {K : List Int}
theorem cloneEnd {B : List Int} {ρ : Env} (z : Bk) (h0 : ρ.I 0 = most) (h3 : ρ.I 3 = (h : Int)) (h4 : decL (ρ.I 4) = usedL K) (s : Stk most h B K) (m0 : 0 <= most) (m1 : most <= 65535) (hB : z ≠ .row -> B = []) (h6 : z = .row -> ρ.I 6 = (B.length : Int)) (h5 : z = .row -> decL (ρ.I 5) = B) :
 MGoodO Try.prog (.plain w) 48 (fun x w' => ∃ b', x = .pointer (some ⟨b', 0, none⟩) /\ NewR w w' b' most h K /\ Framed w w') (eN (.ptr 10 (.lit 0))) [] ρ (.done (qz z) [] (kR z)) := by
 have hT : (eN (.ptr 10 (.lit 0)))[qz z]? = some ⟨[(0, .ptr 10 (.lit 0))], 1, hN z, 14, [], 0⟩ := by cases z <;> rfl
 refine doneR hT fun ρ' hle hG => ⟨trivial, c0', fun x w' r => ?_⟩
 obtain ⟨y, hy, he⟩ := r.t 0 _ rfl
 obtain rfl : x = y := Option.some.inj he
 have i0 : ((kR z).app ρ').I 0 = most := sbI (t := .var 0) (by cases z <;> rfl) (by show some (ρ'.I 0) = _; rw [hle.i, h0])
 have i3 : ((kR z).app ρ').I 3 = (h : Int) := sbI (t := .var 3) (by cases z <;> rfl) (by show some (ρ'.I 3) = _; rw [hle.i, h3])
 have i4 : decL (((kR z).app ρ').I 4) = usedL K := by rw [sbI (t := .var 4) (x := ρ.I 4) (by cases z <;> rfl) (by show some (ρ'.I 4) = _; rw [hle.i])]; exact h4
 have fin : ∀ {b' : Nat}, ((kR z).app ρ').N 10 = some b' -> x = .pointer (some ⟨b', 0, none⟩) := fun {b'} hb => by
  have hp : (AVal.ptr 10 (.lit 0)).den ((kR z).app ρ') = some (.pointer (some ⟨b', 0, none⟩)) := by simp only [AVal.den, hb]; rfl
  exact Option.some.inj (hy.symm.trans hp)
 cases z with
 | nil =>
  obtain rfl := hB (by simp)
  obtain ⟨b', hb, hn⟩ := new_none (v := .sliceNil) r.h rfl rfl i0 i3 i4 (a := none) rfl (fun _ e => by cases e) s m0 m1
  exact ⟨b', fin hb, hn, Framed.of r.h⟩
 | zero =>
  obtain rfl := hB (by simp)
  obtain ⟨vb, hvb⟩ : ∃ q, ((kR .zero).app ρ').N 12 = some q := by
   -- the new row's block is named in the stock's cells
   obtain ⟨b0, o0, _, _, xs, c, fr, _, hd, _⟩ := r.h.blk 10 _ (show (ofP (hN .zero)).get 10 = some (nB (nv .zero)) from rfl)
   cases h12 : ((kR .zero).app ρ').N 12 with
   | some q => exact ⟨q, rfl⟩
   | none =>
    exfalso
    have hz : (nv .zero).den ((kR .zero).app ρ') = none := by simp only [nv, AVal.den, h12]
    simp only [AVal.denL, hz] at hd
    split at hd
    · rename_i h1; split at h1
      · rename_i h2; cases h2
      · cases h1
    · cases hd
  obtain ⟨b', hb, hn⟩ := new_none (v := nv .zero) r.h rfl rfl i0 i3 i4 (a := some ⟨vb, 0, none⟩) (den_slice_of hvb rfl rfl rfl) (fun p e => by cases e; rfl) s m0 m1
  exact ⟨b', fin hb, hn, Framed.of r.h⟩
 | row =>
  have i6 : ((kR .row).app ρ').I 6 = (B.length : Int) := sbI (t := .var 6) rfl (by show some (ρ'.I 6) = _; rw [hle.i, h6 rfl])
  have i5 : decL (((kR .row).app ρ').I 5) = B := by rw [sbI (t := .var 5) (x := ρ.I 5) rfl (by show some (ρ'.I 5) = _; rw [hle.i])]; exact h5 rfl
  obtain ⟨b', hb, hn⟩ := new_row r.h rfl rfl rfl i0 i3 i4 i6 i5 s m0 m1
  exact ⟨b', fin hb, hn, Framed.of r.h⟩
end
end Lp
end Go.Proofs.Ytighjgmgpphohaa
end
