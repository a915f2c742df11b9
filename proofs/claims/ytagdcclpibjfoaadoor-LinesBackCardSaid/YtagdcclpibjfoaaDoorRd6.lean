/-
  Reading scripts (6): LinesBack's walk: what is told is read.
-/
import Derived.Test.YtagdcclpibjfoaaDoorRdv
import Derived.Test.YtagdcclpibjfoaaDoorLf1
namespace Go.Proofs.YtagdcclpibjfoaaDoor
open Go.Vm Txt
namespace Rd

-- WHAT IS KNOWN OF THE FUNCTIONS
def spScr (s : ST) (b : Bool) : SpG := fun args H nl cs => match args with
  | [x] => match rowArg H x 0 ks8 with
    | some (.var 10) => some [.ret (.tuple [.str s, .bool (.lit b)]) H nl cs]
    | _ => none
  | _ => none
def spRdT : SpG := fun args H nl cs => match args with
  | [.str (.var 1)] => some [.ret (.tuple [.slice (nl + 1) (.lit 0) (.var 10) (.nv nl), .int .i64 (.lit 0)]) (H.set (nl + 1) ⟨.arr (.var 1) ks8 77 (.var 10) (.lit 0) (some (.nv nl)), true⟩) (nl + 2) cs]
  | _ => none
def spSm : SpG := fun args H nl cs => match args with
  | [x, y] => match rowArg H x 0 ks8, rowArg H y 1 ks8 with
    | some (.var 10), some (.var 10) => some [.ret (.bool (.lit true)) H nl cs]
    | _, _ => none
  | _ => none
def GB (v : Value) (n : Nat) : GP := fun I _ S V F => F = FR v ∧ V 0 = v ∧ I 10 = (n : Int) ∧ V 1 = rowV (evs (evl v n)) ∧ S 1 = Txt.bytes (scr (evl v n))
def βB (w : World) (v : Value) (n : Nat) : Base := ⟨w, [], GB v n⟩
section
variable {w0 : World} {v : Value} {n : Nat}
theorem arg_row {ρ : Env} {H : Heap} {nl : Nat} {w : World} {x : AVal} {xv : Value} {a : Nat} (h : rowArg H x a ks8 = some (.var 10)) (hx : x.den ρ = some xv) (hh : HRel (βB w0 v n) ρ H nl w) : ∃ b o cap : Nat, xv = .slice (some ⟨b, o, none⟩) n cap ∧ RowAt w b o ks8 n (ρ.V a) := by
  obtain ⟨_, _, g2, _⟩ : GB v n ρ.I ρ.B ρ.S ρ.V ρ.F := hh.g
  obtain ⟨b, o, m, cap, rfl, hm, hrow⟩ := rowArg_ok h hx hh
  have hmn : m = n := by
    have : ρ.I 10 = m := Option.some.inj hm
    rw [g2] at this; omega
  subst hmn
  exact ⟨b, o, cap, rfl, hrow⟩
theorem spScr_ok (hv : RecIn v) (hT : TabW w0) (h1 : 1 ≤ n) (hn : n ≤ 200) {s : ST} {b : Bool} (hb : allB v n = b) (hs : ∀ ρ, GP.at (GB v n) ρ → s.den ρ = Txt.bytes (scV v n)) : SpGOk Tryd.prog (βB w0 v n) 72 (spScr s b) := by
  intro args H nl cs ls ρ w xs hr hx hh hc
  have hg : GP.at (GB v n) ρ := hh.g
  unfold spScr at hr
  split at hr
  rotate_left
  · cases hr
  rename_i x
  split at hr
  rotate_left
  · cases hr
  rename_i hra
  cases hr
  simp only [AVal.denL] at hx
  cases hxd : x.den ρ with
  | none => rw [hxd] at hx; cases hx
  | some xv =>
    rw [hxd] at hx; cases hx
    obtain ⟨c, o, cap, rfl, hrow⟩ := arg_row hra hxd hh
    rw [hg.2.1] at hrow
    refine spV_ok (script72 w v n c o cap hv (TabW.of hT rfl hh) h1 hn hrow) ?_ hh hc
    refine tup2 (congrArg (fun b => some (Value.string b)) (hs ρ hg)) ?_
    rw [hb]; rfl
theorem spRdT_ok (hT : TabW w0) (hM : MaxW w0) (hE : ErrW w0) (h1 : 1 ≤ n) (hn : n ≤ 200) (hb : allB v n = true) : SpGOk Tryd.prog (βB w0 v n) 69 spRdT := by
  intro args H nl cs ls ρ w xs hr hx hh hc
  obtain ⟨_, _, g2, g3, g4⟩ : GB v n ρ.I ρ.B ρ.S ρ.V ρ.F := hh.g
  unfold spRdT at hr
  split at hr
  rotate_left
  · cases hr
  cases hr
  have hx' : xs = [.string (Txt.bytes (scr (evl v n)))] := by
    simp only [AVal.denL, AVal.den, ST.den, g4, Option.some.injEq] at hx
    exact hx.symm
  subst hx'
  have hl := scr_len (evl v n)
  rw [evl_len] at hl
  have ha : ∀ e ∈ evl v n, evB e = true := by unfold allB at hb; rwa [List.all_eq_true] at hb
  have hr := read_told ha (by rw [evl_len]; exact hn)
  refine (read69 w (TabW.of hT rfl hh) (by obtain ⟨m, hm⟩ := hM; exact ⟨m, cell_of' (β := βB w0 v n) hm rfl hh⟩) (ErrW.of hE rfl hh) (Txt.bytes (scr (evl v n))) (by rw [bytes_size]; omega) (fun x hx => ?_)).mono fun e w' ⟨y, he, ho⟩ => ?_
  · rw [bytes_toList, lns_scr] at hx
    obtain ⟨e, _, rfl⟩ := List.mem_map.1 hx
    have := text_len e; omega
  · rw [bytes_toList, hr] at he ho
    simp only [evl_len] at ho
    rcases ho with ⟨h0, _⟩ | ⟨_, ro⟩
    · omega
    · obtain ⟨ρ', hle, hd, hr'⟩ := row_inV hh ro (nT := .var 10) (a := 1) (congrArg some g2) g3
      exact ⟨_, he, _, _, _, _, ρ', List.mem_cons_self, hle, tup2 hd rfl, hr', hc.mono hle⟩
theorem spSm_ok (hn : n ≤ 200) : SpGOk Tryd.prog (βB w0 v n) 71 spSm := by
  intro args H nl cs ls ρ w xs hr hx hh hc
  obtain ⟨_, g1, g2, g3, _⟩ : GB v n ρ.I ρ.B ρ.S ρ.V ρ.F := hh.g
  unfold spSm at hr
  split at hr
  rotate_left
  · cases hr
  rename_i x y
  split at hr
  rotate_left
  · cases hr
  rename_i hra hrb
  cases hr
  simp only [AVal.denL] at hx
  cases hxd : x.den ρ with
  | none => rw [hxd] at hx; cases hx
  | some xv =>
    cases hyd : y.den ρ with
    | none => rw [hxd, hyd] at hx; cases hx
    | some yv =>
      rw [hxd, hyd] at hx; cases hx
      obtain ⟨c, o, cap, rfl, hrow⟩ := arg_row hra hxd hh
      obtain ⟨c', o', cap', rfl, hrow'⟩ := arg_row hrb hyd hh
      rw [g1] at hrow
      rw [g3] at hrow'
      exact spV_ok (same71 w v (rowV (evs (evl v n))) n c o cap c' o' cap' (by omega) hrow hrow' fun i hi => by rw [rowV_ev (by rw [evl_len]; exact hi), evl_get hi]) rfl hh hc
end
-- THE LAW
def spLw (s : ST) (b : Bool) : CallF := spL [(62, spTrue), (72, spScr s b), (65, spTx), (63, spPrN), (69, cond b spRdT fun _ _ _ _ => none), (71, spSm)]
def csL : Cs := inCs 0 ++ csN
def LT (s : ST) (b : Bool) : Tpl := ⟨[(0, sl), (3, .str s), (4, .bool (.lit b)), (22, sl), (23, iV 10), (24, iV 0)], 71, H0, 1, csL, 3⟩
noncomputable def bb0 : Code := ((loopsOf (Tryd.f15.body.getD .ret) []).getD 0 (.ret, [])).1
noncomputable def bk0 : List Item := ((loopsOf (Tryd.f15.body.getD .ret) []).getD 0 (.ret, [])).2
noncomputable def RunL (s : ST) (b : Bool) (c : Cs) (l : LS) : Prop := (run Tryd.prog [(127, .same)] (spLw s b) 4000 true 15 ((⟨(LT s b).tm, (LT s b).nt, (LT s b).H, (LT s b).nl, c ++ (LT s b).cs, (LT s b).dep⟩ : Tpl).st (.code bb0 :: .inLoop bb0 :: bk0))).map (·.filterMap (sumL gR [LT s b])) = some [l]
def nqC (j : Nat) : BT := .cmp .eql (.fn 74 (.scode t1) (.lit j)) (.sel 0 8 j (.var 0))
def nqT : BT := .and (nqC 0) (.and (nqC 1) (.and (nqC 2) (.and (nqC 3) (.and (nqC 4) (.and (nqC 5) (.and (nqC 6) (nqC 7)))))))
def fx : Cs := inI (.var 0) true ++ fT t1 false ++ [(.cmp .leq (.slen t1) (.lit 200), true), (okT t1, true), (.not nqT, false)]
def fz : Cs := inI (.var 0) true ++ fT t1 true ++ [(.cmp .leq (.slen t1) (.lit 200), true), (okT t1, false)]
def sB : Sub := ⟨[(0, .bin .add .i64 (.var 0) (.lit 1))], [], [], [], [(0, 0)]⟩
noncomputable def RunE (s : ST) (b : Bool) : Prop := (run Tryd.prog [(127, .same)] (spLw s b) 4000 true 15 (entry Tryd.f15 (Tryd.f15.body.getD .ret) [sl] (ofP H0) 1 csN)).map (·.filterMap (sumL gR [LT s b])) = some [.next 0 (.code (.loop bb0) :: bk0) ((.cmp .gtr (.var 10) (.lit 200), false) :: csN) ⟨[(0, .lit 0)], [], [], [], [(0, 0)]⟩]
theorem bTE : RunE (.var 1) true := by unfold RunE; kernel_rfl
theorem bFE : RunE (.lit []) false := by unfold RunE; kernel_rfl
theorem bTx : RunL (.var 1) true fx (.next 0 (.inLoop bb0 :: bk0) (fx ++ csL) sB) := by unfold RunL; kernel_rfl
theorem bFx : RunL (.lit []) false fx (.next 0 (.inLoop bb0 :: bk0) (fx ++ csL) sB) := by unfold RunL; kernel_rfl
theorem bFz : RunL (.lit []) false fz (.next 0 (.inLoop bb0 :: bk0) (fz ++ csL) sB) := by unfold RunL; kernel_rfl
theorem bTn : RunL (.var 1) true (inI (.var 0) false) (.ret (.bool (.lit true)) (inI (.var 0) false ++ csL)) := by unfold RunL; kernel_rfl
theorem bFn : RunL (.lit []) false (inI (.var 0) false) (.ret (.bool (.lit true)) (inI (.var 0) false ++ csL)) := by unfold RunL; kernel_rfl
structure Jb (v : Value) (n i : Nat) (ρ : Env) : Prop where
  g : GP.at (GB v n) ρ
  i0 : ρ.I 0 = (i : Int)
  le : i ≤ n
theorem Jb.of_le {v : Value} {n i : Nat} {ρ ρ' : Env} (h : Jb v n i ρ) (g : ρ.Le ρ') : Jb v n i ρ' := ⟨GP.mono g h.g, by rw [g.i]; exact h.i0, h.le⟩
section
variable {v : Value} {n i : Nat} {ρ : Env}
theorem Jb.row (h : Jb v n i ρ) : Row v n ρ := ⟨h.g.1, h.g.2.1, h.g.2.2.1⟩
theorem csL_ok (h : Jb v n i ρ) (hn : n ≤ 200) : CRel ρ csL := by
  have e : (IT.var 10).den ρ = some (n : Int) := congrArg some h.row.n0
  have e0 : (IT.var 0).den ρ = some (i : Int) := congrArg some h.i0
  have hle := h.le
  refine CRel_app.2 ⟨CRel_cons.2 ⟨?_, CRel_cons.2 ⟨?_, CRel_nil.2 trivial⟩⟩, csN_ok h.row hn⟩
  · simp only [BT.den, e0, litI, intCmp, Option.some.injEq, decide_eq_true_eq]; omega
  · simp only [BT.den, e0, e, intCmp, Option.some.injEq, decide_eq_true_eq]; omega
theorem t1_den (h : Jb v n i ρ) : t1.den ρ = Txt.bytes (evText (evRow v i)) := by
  have := txT_den h.row.f (.var 0)
  have e : (PT.var 0).den ρ = (i : Int) := h.i0
  rw [e, Int.toNat_natCast] at this
  exact this
theorem fx_ok (h : Jb v n i ρ) (hi : i < n) (hb : evB (evRow v i) = true) : CRel ρ fx := by
  have e0 : (IT.var 0).den ρ = some (i : Int) := congrArg some h.i0
  have et := t1_den h
  have hlen := text_len (evRow v i)
  have hr := readE_text hb
  have hk := okT_den h.row.f t1
  rw [et, bytes_toList, hr] at hk
  have hc : ∀ j : Nat, j < 8 → (evC (evRow v i)).getD j 0 = selI v (i * 8 + j) → (nqC j).den ρ = some true := fun j hj hs => by
    have a := ev_den h.row.f t1 (j : Int)
    rw [et, bytes_toList, hr, Int.toNat_natCast] at a
    have b : (IT.sel 0 8 j (.var 0)).den ρ = some (selI v (i * 8 + j)) := by simp only [IT.den, h.row.v0, h.i0, Option.map_some, Int.toNat_natCast]
    simp only [nqC, BT.den, a, b, intCmp, hs, beq_self_eq_true]
  have hn : nqT.den ρ = some true := by
    simp only [nqT, BT.den, hc 0 (by omega) rfl, hc 1 (by omega) rfl, hc 2 (by omega) rfl, hc 3 (by omega) rfl, hc 4 (by omega) rfl, hc 5 (by omega) rfl, hc 6 (by omega) rfl, hc 7 (by omega) rfl]
    rfl
  refine CRel_app.2 ⟨CRel_app.2 ⟨inI_ok h.row e0 (b := true) (decide_eq_true hi), fT_ok et (b := false) (emp (text_ne.2 hb))⟩, CRel_cons.2 ⟨?_, CRel_cons.2 ⟨hk, CRel_cons.2 ⟨notD hn, CRel_nil.2 trivial⟩⟩⟩⟩
  simp only [BT.den, IT.den, et, bytes_size, intCmp, Option.some.injEq, decide_eq_true_eq]; omega
theorem fz_ok (h : Jb v n i ρ) (hi : i < n) (hb : evB (evRow v i) = false) : CRel ρ fz := by
  have e0 : (IT.var 0).den ρ = some (i : Int) := congrArg some h.i0
  have et := t1_den h
  have hz : evText (evRow v i) = [] := by unfold evText; rw [hb]; rfl
  rw [hz] at et
  have hk := okT_den h.row.f t1
  rw [et, bytes_toList, readE_nil] at hk
  refine CRel_app.2 ⟨CRel_app.2 ⟨inI_ok h.row e0 (b := true) (decide_eq_true hi), fT_ok et (b := true) rfl⟩, CRel_cons.2 ⟨?_, CRel_cons.2 ⟨hk, CRel_nil.2 trivial⟩⟩⟩
  simp only [BT.den, IT.den, et, bytes_size, intCmp, Option.some.injEq, decide_eq_true_eq, List.length_nil]; omega
end
theorem stayB {w0 : World} {v : Value} {n : Nat} (hn : n ≤ 200) {s : ST} {b : Bool} {cs : Cs} {ρ : Env} {i : Nat} (h : Jb v n i ρ) (hi : i < n) (ih : ∀ (ρ' : Env), ((n : Int) - ρ'.I 0).toNat < ((n : Int) - ρ.I 0).toNat → (∃ i, Jb v n i ρ') → ∀ todo a w, todo = .inLoop bb0 :: bk0 ∨ todo = .code (.loop bb0) :: bk0 → SRel (βB w0 v n) ρ' ((LT s b).st todo) a w → Goes Tryd.prog 15 (fun x w' => x = .bool true ∧ Framed w0 w') todo a w) :
    SumGood Tryd.prog (βB w0 v n) 15 (fun x => x = .bool true) [LT s b] ρ (.next 0 (.inLoop bb0 :: bk0) cs sB) := by
  refine nextS rfl fun ρ' hle hG' => ?_
  have h' := h.of_le hle
  have j : Jb v n (i + 1) (sB.app ρ') := by
    refine ⟨⟨h'.g.1, h'.g.2.1, h'.g.2.2.1, h'.g.2.2.2.1, h'.g.2.2.2.2⟩, ?_, by omega⟩
    show IntKind.i64.wrap (ρ'.I 0 + 1) = _
    rw [h'.i0, wrapI (by omega) (by omega)]; simp
  refine ⟨j.g, csL_ok j hn, fun a w r => ih _ ?_ ⟨i + 1, j⟩ _ a w (.inl rfl) r⟩
  show ((n : Int) - (sB.app ρ').I 0).toNat < ((n : Int) - ρ.I 0).toNat
  rw [j.i0, h.i0]; omega
section
variable {w0 : World} {v : Value} {n : Nat} (hv : RecIn v) (hT : TabW w0) (hM : MaxW w0) (hE : ErrW w0) (h1 : 1 ≤ n) (hn : n ≤ 200)
include hv hT hM hE h1 hn
theorem spLw_ok {s : ST} {b : Bool} (hb : allB v n = b) (hs : ∀ ρ, GP.at (GB v n) ρ → s.den ρ = Txt.bytes (scV v n)) : CallOk Tryd.prog (βB w0 v n) (spLw s b) := by
  refine spL_ok fun p hp => ?_
  simp only [List.mem_cons, List.not_mem_nil, or_false] at hp
  rcases hp with rfl | rfl | rfl | rfl | rfl | rfl
  · intro args H nl cs ls ρ' w' xs hr hx hh hc
    change spTrue args H nl cs = some ls at hr
    unfold spTrue at hr
    split at hr
    · cases hr; cases hx
      exact spV_ok (Ln.first62 w' (TabW.of hT rfl hh) (ErrW.of hE rfl hh)) rfl hh hc
    · cases hr
  · exact spScr_ok hv hT h1 hn hb hs
  · exact spTx_ok (v := v) (fun _ _ _ _ _ h => ⟨h.1, h.2.1⟩) hv rfl hT
  · exact spPrN_ok (v := v) (fun _ _ _ _ _ h => h.1) rfl hT hM hE
  · cases b with
    | true => exact spRdT_ok hT hM hE h1 hn hb
    | false => intro args H nl cs ls ρ w xs hr; cases hr
  · exact spSm_ok hn
theorem loopT (hb : allB v n = true) : ∀ ρ, (∃ i, Jb v n i ρ) → ∀ todo a w, todo = .inLoop bb0 :: bk0 ∨ todo = .code (.loop bb0) :: bk0 → SRel (βB w0 v n) ρ ((LT (.var 1) true).st todo) a w → Goes Tryd.prog 15 (fun x w' => x = .bool true ∧ Framed w0 w') todo a w := by
  have hs : ∀ ρ, GP.at (GB v n) ρ → (ST.var 1).den ρ = Txt.bytes (scV v n) := fun ρ g => by
    unfold scV; rw [if_pos hb]; exact g.2.2.2.2
  refine loop_goesS (n := 4000) (g := gR) (pl := true) (Ts := [LT (.var 1) true]) (Q := fun x => x = .bool true) (β := βB w0 v n) noCount ext1_ok (spLw_ok hv hT hM hE h1 hn hb hs) follows rfl (fun ρ => ∃ i, Jb v n i ρ) (fun ρ => ((n : Int) - ρ.I 0).toNat) (fun ρ hJ hH hcs hG ih => ?_)
  obtain ⟨i, h⟩ := hJ
  have e0 : (IT.var 0).den ρ = some (i : Int) := congrArg some h.i0
  by_cases hi : i < n
  · cases he : evB (evRow v i) with
    | false => rw [allB_not hi he] at hb; cases hb
    | true => exact ⟨_, _, CRel_app.2 ⟨fx_ok h hi he, hcs⟩, bTx, one (stayB hn h hi ih)⟩
  · exact ⟨_, _, CRel_app.2 ⟨inI_ok h.row e0 (b := false) (decide_eq_false hi), hcs⟩, bTn, one (retS (z := .bool true) (fun ρ' _ => rfl) rfl)⟩
theorem loopF (hb : allB v n = false) : ∀ ρ, (∃ i, Jb v n i ρ) → ∀ todo a w, todo = .inLoop bb0 :: bk0 ∨ todo = .code (.loop bb0) :: bk0 → SRel (βB w0 v n) ρ ((LT (.lit []) false).st todo) a w → Goes Tryd.prog 15 (fun x w' => x = .bool true ∧ Framed w0 w') todo a w := by
  have hs : ∀ ρ, GP.at (GB v n) ρ → (ST.lit []).den ρ = Txt.bytes (scV v n) := fun ρ g => by
    unfold scV; rw [if_neg (by rw [hb]; decide)]; rfl
  refine loop_goesS (n := 4000) (g := gR) (pl := true) (Ts := [LT (.lit []) false]) (Q := fun x => x = .bool true) (β := βB w0 v n) noCount ext1_ok (spLw_ok hv hT hM hE h1 hn hb hs) follows rfl (fun ρ => ∃ i, Jb v n i ρ) (fun ρ => ((n : Int) - ρ.I 0).toNat) (fun ρ hJ hH hcs hG ih => ?_)
  obtain ⟨i, h⟩ := hJ
  have e0 : (IT.var 0).den ρ = some (i : Int) := congrArg some h.i0
  by_cases hi : i < n
  · cases he : evB (evRow v i) with
    | false => exact ⟨_, _, CRel_app.2 ⟨fz_ok h hi he, hcs⟩, bFz, one (stayB hn h hi ih)⟩
    | true => exact ⟨_, _, CRel_app.2 ⟨fx_ok h hi he, hcs⟩, bFx, one (stayB hn h hi ih)⟩
  · exact ⟨_, _, CRel_app.2 ⟨inI_ok h.row e0 (b := false) (decide_eq_false hi), hcs⟩, bFn, one (retS (z := .bool true) (fun ρ' _ => rfl) rfl)⟩
end
noncomputable def ρB (v : Value) (n cap o b : Nat) : Env := { ρR v n cap o b with V := fun i => if i = 0 then v else rowV (evs (evl v n)), S := fun _ => Txt.bytes (scr (evl v n)) }
theorem back_walk (w : World) (v : Value) (n b o cap : Nat) (hv : RecIn v) (hT : TabW w) (hM : MaxW w) (hE : ErrW w) (h1 : 1 ≤ n) (hn : n ≤ 200) (hrow : RowAt w b o ks8 n v) : Calls Tryd.prog 15 #[.slice (some ⟨b, o, none⟩) n cap] w (fun e w' => e = .returned (.bool true) ∧ Framed w w') := by
  have hG : GP.at (GB v n) (ρB v n cap o b) := ⟨rfl, rfl, rfl, rfl, rfl⟩
  have hR : Row v n (ρB v n cap o b) := ⟨rfl, rfl, rfl⟩
  have hs := HRel.row (G := GB v n) (ρ := ρB v n cap o b) (a := 0) (n := .var 10) (off := .var 12) (el := 77) hrow rfl rfl (fun _ => rfl) hG
  have hx : AVal.denL (ρB v n cap o b) [sl] = some [.slice (some ⟨b, o, none⟩) n cap] := by
    have h0 : natOf ((IT.var 12).den (ρB v n cap o b)) = some o := rfl
    have h1 : natOf ((IT.var 10).den (ρB v n cap o b)) = some n := rfl
    have h2 : natOf ((IT.var 11).den (ρB v n cap o b)) = some cap := rfl
    have h3 : (ρB v n cap o b).N 0 = some b := rfl
    simp only [AVal.denL, sl, AVal.den, h0, h1, h2, h3]
  have start : ∀ {s : ST} {b' : Bool} {cs : Cs}, (∀ ρ, (∃ i, Jb v n i ρ) → ∀ todo a w', todo = .inLoop bb0 :: bk0 ∨ todo = .code (.loop bb0) :: bk0 → SRel (βB w v n) ρ ((LT s b').st todo) a w' → Goes Tryd.prog 15 (fun x w'' => x = .bool true ∧ Framed w w'') todo a w') → SumGood Tryd.prog (βB w v n) 15 (fun x => x = .bool true) [LT s b'] (ρB v n cap o b) (.next 0 (.code (.loop bb0) :: bk0) cs ⟨[(0, .lit 0)], [], [], [], [(0, 0)]⟩) := fun {s b' cs} L => by
    refine nextS rfl fun ρ' hle hG' => ?_
    have j : Jb v n 0 (Sub.app ⟨[(0, .lit 0)], [], [], [], [(0, 0)]⟩ ρ') := ⟨⟨hG'.1, hG'.2.1, hG'.2.2.1, hG'.2.2.2.1, hG'.2.2.2.2⟩, rfl, Nat.zero_le _⟩
    exact ⟨j.g, csL_ok j hn, fun a w' r => L _ ⟨0, j⟩ _ a w' (.inr rfl) r⟩
  cases hb : allB v n with
  | true =>
    have hss : ∀ ρ, GP.at (GB v n) ρ → (ST.var 1).den ρ = Txt.bytes (scV v n) := fun ρ g => by
      unfold scV; rw [if_pos hb]; exact g.2.2.2.2
    have := calls_sums (β := βB w v n) (Q := fun x => x = .bool true) noCount ext1_ok (spLw_ok hv hT hM hE h1 hn hb hss) follows rfl Tryd.func15 rfl bTE hx hs (csN_ok hR hn) (one (start (loopT hv hT hM hE h1 hn hb)))
    exact this.mono fun e w' ⟨x, he, hq, hf⟩ => ⟨by rw [he, hq], hf⟩
  | false =>
    have hss : ∀ ρ, GP.at (GB v n) ρ → (ST.lit []).den ρ = Txt.bytes (scV v n) := fun ρ g => by
      unfold scV; rw [if_neg (by rw [hb]; decide)]; rfl
    have := calls_sums (β := βB w v n) (Q := fun x => x = .bool true) noCount ext1_ok (spLw_ok hv hT hM hE h1 hn hb hss) follows rfl Tryd.func15 rfl bFE hx hs (csN_ok hR hn) (one (start (loopF hv hT hM hE h1 hn hb)))
    exact this.mono fun e w' ⟨x, he, hq, hf⟩ => ⟨by rw [he, hq], hf⟩
end Rd
end Go.Proofs.YtagdcclpibjfoaaDoor
