/-
  RankTables (21): the law answers true, for every argument; the row and the card.
-/
import Derived.Test.YtglghnfbkiondaaDoorRt20
import Derived.Test.YtglghnfbkiondaaDoorRk8
import Derived.Lib.LaidTab
import Derived.MakeChecks
import Derived.HandedShaped
import Derived.Shelf.Vars
import Derived.LaidLaws
namespace Go.Proofs.YtglghnfbkiondaaDoor
open Go.ChangeShapes Go.WideShapes Go.ChangeAt Go.RowKit Go.Vm Go.Vm.Rk Go.Vm.Mr
set_option linter.unusedVariables false
namespace Rt
open Rk (noSp0 own laidOut readable_of laidWorld roH Ran)

-- THE LAW, OF VALUES
noncomputable def envD (d : Dt) (o q b : Nat) : Env := ⟨fun i => if i = 62 then (o : Int) else if i = 63 then (q : Int) else Id d i, fun _ => false, Sd d, fun _ => undef, fun i => if i = 0 then some b else none, Fd d⟩
theorem Id_pin {d : Dt} : ∀ p ∈ pins d, Id d p.1 = p.2 := fun p hp => by
  simp only [pins, List.mem_cons, List.not_mem_nil, or_false] at hp
  rcases hp with rfl | rfl | rfl | rfl | rfl | rfl | rfl <;> rfl
theorem envD_G {d : Dt} {o q b : Nat} : (Gd d).at (envD d o q b) := by
  refine ⟨fun p hp => ?_, ⟨rfl, rfl, rfl, rfl, rfl, rfl, rfl, rfl, rfl⟩, rfl, rfl, fun k x y => Sd_cod d k x y, ⟨⟨rfl, rfl, rfl, rfl⟩, rfl, rfl⟩, rfl, rfl⟩
  have h : p.1 ≠ 62 ∧ p.1 ≠ 63 := by
    simp only [pins, List.mem_cons, List.not_mem_nil, or_false] at hp
    rcases hp with rfl | rfl | rfl | rfl | rfl | rfl | rfl <;> exact ⟨by simp, by simp⟩
  show (if p.1 = 62 then (o : Int) else if p.1 = 63 then (q : Int) else Id d p.1) = p.2
  rw [if_neg h.1, if_neg h.2]
  exact Id_pin p hp
/-- Such cells lie there. -/
def CellsAt (w : World) (b o : Nat) (L : List Int) : Prop := ∃ c fr el, w.heap[b]? = some (.cells c el fr) ∧ o ≤ c.size ∧ rowOf ksR L <+: c.toList.drop o
theorem bL_at {d : Dt} {w : World} {b o q : Nat} (h : CellsAt w b o (decL d.x)) (hl : (decL d.x).length = d.n * 16) : ∃ ob, w.heap[b]? = some ob ∧ bL.rel (envD d o q b) false ob := by
  obtain ⟨cc, fr, el, h1, h2, h3⟩ := h
  refine ⟨_, h1, rowOf ksR (decL d.x), cc, fr, el, d.n, o, rfl, (fun e => by cases e), ?_, rfl, ⟨h2, h3⟩, ?_, rowOf_typed hl, trivial, (fun e => by cases e)⟩
  · rfl
  · rfl
theorem hrelD {d : Dt} {w : World} {b o q : Nat} (h : CellsAt w b o (decL d.x)) (hl : (decL d.x).length = d.n * 16) (nl : Nat) (hnl : 1 ≤ nl) {G : GP} (hG : G.at (envD d o q b)) : HRel ⟨w, [], G⟩ (envD d o q b) (ofP (roH (EL .row))) nl w := by
  refine HRel.ro (EL .row) (fun p hp => ?_) (fun i hi => if_neg (by omega)) hG (nb_EL .row)
  obtain rfl : p = (0, bL) := List.mem_singleton.1 hp
  obtain ⟨ob, h1, h2⟩ := bL_at (q := q) h hl
  exact ⟨b, ob, rfl, h1, h2⟩
theorem argsD {d : Dt} {b o q : Nat} : AVal.denL (envD d o q b) [SL .row, Rk.iV 34] = some [.slice (some ⟨b, o, none⟩) d.n q, .int .i64 d.kd] :=
  denL2 (den_slice_of rfl rfl rfl rfl) rfl
theorem all4 {β : Base} (hown : β.own = []) {sp : CallF} (hsp : CallOk Tryd.prog β sp) {ρ : Env} {W : World} {args : List AVal} {xs : List Value} {H : Heap} {cs : Cs} (h : All4 sp args H cs) (hx : AVal.denL ρ args = some xs) (hr : HRel β ρ H 10 W) (hc : CRel ρ cs) : Calls Tryd.prog 4 xs.toArray W (fun e w' => e = .returned (.bool true) ∧ Framed β.w0 w') :=
  calls_ret noExt hsp hown Tryd.func4 rfl h hx hr hc (fun _ _ => rfl)
noncomputable def env0 (o q k : Int) (b : Nat) : Env := ⟨fun i => if i = 62 then o else if i = 63 then q else if i = 34 then k else 0, fun _ => false, fun _ => default, fun _ => undef, fun i => if i = 0 then some b else none, Rk.FR⟩
theorem sp0_ok {w : World} : CallOk Tryd.prog ⟨w, [], Rk.GR⟩ sp0 := spL_ok fun p hp => by
  simp only [List.mem_cons, List.not_mem_nil, or_false] at hp
  rcases hp with rfl | rfl | rfl | rfl
  · exact spTrue_ok Rk.first6
  · exact spKey0_ok
  · intro args H nl cs ls ρ w xs hr hx hh hc
    dsimp only [spNil] at hr
    split at hr
    · cases hr
      obtain rfl : [.slice none 0 0] = xs := Option.some.inj ((denL1 (ρ := ρ) rfl).symm.trans hx)
      exact spV_ok (nil21 w) rfl hh hc
    · cases hr
  · exact spSort_ok fun _ _ _ _ _ h => h
theorem hrel0 (w : World) (o q k : Int) (b : Nat) : HRel ⟨w, [], Rk.GR⟩ (env0 o q k b) .leaf 10 w := HRel.ro [] (fun p hp => by cases hp) (fun i hi => if_neg (by omega)) (Rk.GR_at ..)
theorem law_nil (W : World) (k : Int) : Calls Tryd.prog 4 #[.slice none 0 0, .int .i64 k] W (fun e w' => e = .returned (.bool true) ∧ Framed W w') :=
  all4 rfl sp0_ok l4_nil (ρ := env0 0 0 k 0) (xs := [.slice none 0 0, .int .i64 k]) rfl (hrel0 W 0 0 k 0) c0
theorem law_zero (W : World) (b o q : Nat) (k : Int) : Calls Tryd.prog 4 #[.slice (some ⟨b, o, none⟩) 0 q, .int .i64 k] W (fun e w' => e = .returned (.bool true) ∧ Framed W w') :=
  all4 rfl sp0_ok l4_zero (ρ := env0 o q k b) (xs := [.slice (some ⟨b, o, none⟩) 0 q, .int .i64 k]) (denL2 (den_slice_of (b := b) (o := o) (n := 0) (c := q) rfl rfl rfl rfl) rfl) (hrel0 W o q k b) c0
theorem law_row {W : World} (hT : TabW W) {b o q n : Nat} {L : List Int} (h : CellsAt W b o L) (hl : L.length = n * 16) (h1 : 1 ≤ n) (hR : ∀ i j, i < n → j < 15 → Ran (L.getD (i * 16 + j) 0)) (k : Int) :
    Calls Tryd.prog 4 #[.slice (some ⟨b, o, none⟩) n q, .int .i64 k] W (fun e w' => e = .returned (.bool true) ∧ Framed W w') := by
  obtain ⟨d, hd⟩ : ∃ d : Dt, d = ⟨.row, encL L, n, k⟩ := ⟨_, rfl⟩
  have hdx : decL d.x = L := by rw [hd]; exact decL_encL L
  have hdn : d.n = n := by rw [hd]
  have hdk : d.kd = k := by rw [hd]
  have hx := argsD (d := d) (b := b) (o := o) (q := q)
  rw [hdn, hdk] at hx
  have hat : CellsAt W b o (decL d.x) := by rw [hdx]; exact h
  have hlen : (decL d.x).length = d.n * 16 := by rw [hdx, hdn]; exact hl
  by_cases hbig : 100 < n
  · refine all4 (β := ⟨W, [], fun _ _ _ _ _ => True⟩) rfl (spL_ok fun p hp => ?_) l4_long hx (hrelD hat hlen 10 (by omega) (G := fun _ _ _ _ _ => True) trivial) (qD (show (IT.var 36).den (envD d o q b) = some (d.n : Int) from rfl) (litD 100) (by rw [hdn]; simp [intCmp]; omega) c0)
    rw [List.mem_singleton.1 hp]
    exact spTrue_ok Rk.first6
  · have ok : DOk d := ⟨hlen, by omega, by rw [hd]; exact h1, fun i j hi hj => by
      unfold Dt.c
      rw [hdx]
      exact hR i j (by omega) hj⟩
    exact law4 ok (by rw [hd]) hT (hrelD hat hlen 450 (by omega) envD_G) hx
-- WHAT THE ROW LISTS
theorem laidW {W : World} (h : laidMetH Tryd.prog Rows.rankTablesRow.laid W) : TabW W := by
  rw [MakeChecks.laidMetH_plain _ _ _ (by kernel_rfl)] at h
  obtain ⟨ps, ⟨_, _, _, _, _, _, _, _, _, _, ⟨_, _, _, _, _, _, _, _, _, _, ⟨g', t', cs, fuel, p, q, hg', ht', hvar, hd, _, _⟩, _⟩, _⟩, _⟩ := h
  have hg : Tryd.prog.globalNamed "internal/strconv.uint64pow10" = some 1 := by kernel_rfl
  obtain rfl := Option.some.inj (hg.symm.trans hg')
  have hty : ∃ t e, (Tryd.prog.globals[1]?).map (·.type) = some t ∧ Tryd.prog.underlying t = some (.array 20 e) ∧ Tryd.prog.underlying e = some (.int .u64) ∧ Tryd.prog.cellsOf e = 1 ∧ Tryd.prog.cellsOf t = 20 := ⟨109, 39, by kernel_rfl, by kernel_rfl, by kernel_rfl, by kernel_rfl, by kernel_rfl⟩
  obtain ⟨t, e, h1, h2, h3, h4, h5⟩ := hty
  obtain rfl := Option.some.inj (h1.symm.trans ht')
  have hdd : Rows.laid_internal_strconv_uint64pow10 = (Lib.tabData .u64 Lib.pow10Tab : DataW Unit) := by kernel_rfl
  unfold TabW Lib.TabIs
  rw [hvar, ← Lib.cells_of_tab h2 h3 h4 h5 (hdd ▸ hd)]
-- ROW AND CARD
theorem recs_row {W : World} {b o m : Nat} {u : Value} (h : RowAt W b o ksR m u) (hin : InRow ksR m u) : ∃ L : List Int, L.length = m * 16 ∧ CellsAt W b o L ∧ ∀ i j, i < m → j < 15 → Ran (L.getD (i * 16 + j) 0) := by
  obtain ⟨c, fr, el, xs, h1, h2, h3, h4, h5⟩ := h.row
  have hl : xs.length = m * 16 := h5.1
  refine ⟨xs.map toZ, by rw [List.length_map, hl], ⟨c, fr, el, h1, h3, by rw [← h5.rowOf]; exact h4⟩, fun i j hi hj => ?_⟩
  have hk : ksR[j]? = some .i64 := by
    have : ∀ j, j < 15 → ksR[j]? = some IntKind.i64 := by decide
    exact this j hj
  have hr := hin.1 i j .i64 hi hk
  have hb : IntKind.i64.min = -9223372036854775808 ∧ IntKind.i64.max = 9223372036854775807 := by decide
  have hlt : i * 16 + j < xs.length := by omega
  have hv : xs[i * 16 + j]? = some (xs[i * 16 + j]) := List.getElem?_eq_getElem hlt
  have hro := h5.rowOf
  have hz : xs[i * 16 + j]? = some (.int .i64 ((xs.map toZ).getD (i * 16 + j) 0)) := by
    conv => lhs; rw [hro]
    rw [rowOf_get, List.getElem?_map, List.getElem?_eq_getElem hlt]
    have e1 : (i * 16 + j) % ksR.length = j := by
      show (i * 16 + j) % 16 = j
      omega
    rw [e1]
    simp only [Option.map_some, List.getD_eq_getElem?_getD, List.getElem?_map, List.getElem?_eq_getElem hlt, Option.getD_some]
    rw [hk]; rfl
  have hs := selI_of h2 hz
  have e2 : i * ksR.length + j = i * 16 + j := rfl
  rw [e2, hs, hb.1, hb.2] at hr
  exact ⟨hr.1, by omega⟩
theorem readable4 : ∀ t ∈ Tryd.f4.params.toList, Tryd.prog.readableRec t = true ∧ t < Tryd.prog.types.size := readable_of (by kernel_rfl)
theorem cells41 : Tryd.prog.cellsOf 41 = ksR.length := by kernel_rfl
theorem flat41 : flat Tryd.prog 5 41 = some ksR := by kernel_rfl
set_option maxRecDepth 100000 in
/-- WHAT THE WALK GIVES, FOR EVERY ARGUMENT. -/
theorem contract (H : Type) (enc : TypeId × Value → H) (W : World) (base : Nat) (args : Array Value) (ds gs : List (DataW H)) (before : List MemPlace)
    (hval : ∀ (j : Nat) t v, Tryd.f4.params[j]? = some t → args[j]? = some v → Value.okWide Tryd.prog W .any base t v)
    (hW : DataW.Whole enc Tryd.prog Tryd.f4.params.toList Rows.rankTablesSpec.vars false W args.toList ds gs before) (hT : TabW W) :
    Calls Tryd.prog 4 args W fun e W' => ∃ v, e = .returned v ∧ Rows.rankTablesSpec.post enc Tryd.prog Tryd.f4 false true false false W args v W' := by
  have hW' := hW
  obtain ⟨p, q, hA0, hV, rfl, hfz, hnd⟩ := hW
  have hA : DataW.TrodAll enc Tryd.prog W 0 (fun _ => true) true Tryd.f4.params.toList args.toList ds p := hA0
  rw [Tryd.params4] at hA hval
  obtain ⟨v0, vs0, d0, ds0, p0, q0, hargs, rfl, rfl, h0, r0⟩ := trodAll_cons hA
  obtain ⟨v1, vs1, d1, ds1, p1, q1, rfl, rfl, rfl, h1, r1⟩ := trodAll_cons r0
  obtain ⟨rfl, rfl, rfl⟩ := trodAll_nil r1
  obtain rfl : args = #[v0, v1] := by cases args; simp_all
  have walk : Calls Tryd.prog 4 #[v0, v1] W fun e w' => e = .returned (.bool true) ∧ Framed W w' := by
    obtain ⟨k, rfl, _, _, _⟩ := open_int Tryd.underlying3 (hval 1 3 v1 rfl rfl) h1
    rcases open_rowsR Tryd.underlying33 cells41 (by decide) flat41 (hval 0 33 v0 rfl rfl) h0 with rfl | ⟨b, o, len, cap, rfl, hlen, hrow⟩
    · exact law_nil W k
    · rcases Nat.eq_zero_or_pos len with rfl | hpos
      · exact law_zero W b o cap k
      · obtain ⟨u, hu, hin⟩ := hrow hpos
        obtain ⟨L, hl, hL, hR⟩ := recs_row hu hin
        exact law_row hT hL hl hpos hR k
  refine walk.mono fun e W' ⟨he, hg⟩ => ⟨_, he, ?_⟩
  exact law_shut (tb := 4) laidOut readable4 (by kernel_rfl) Tryd.underlying4 hW' rfl rfl rfl rfl (below_of_framed hg)
def args0 : Array Value := #[.slice none 0 0, .int .i64 0]
theorem laid_met (os : Os) : laidMet Tryd.prog Rows.rankTablesRow.laid ((laidWorld os).forCall (fun _ _ => 0) ⟨#[], args0, []⟩).memory :=
  laidMet_of_run' 8 (by kernel_rfl) (by kernel_rfl)
theorem reads (os : Os) {H : Type} (enc : TypeId × Value → H) : ∃ places, DataW.whole enc Tryd.prog ((laidWorld os).forCall (fun _ _ => 0) ⟨#[], args0, []⟩).memory Tryd.f4.params.toList Rows.rankTablesSpec.vars false args0.toList 8 = some ([.nil, .lit (.int .i64 0)], [], places) :=
  ⟨[], by kernel_rfl⟩
set_option maxRecDepth 100000 in
theorem lifted (os : Os) (started : os.Started) (H : Type) (enc : TypeId × Value → H) (F : Stop.Interp) :
    ReturnsInHanded {} Tryd.checked os 4 .any ((OpenSpec.ofChange Rows.rankTablesSpec).preRow enc Tryd.prog Tryd.f4 Rows.rankTablesRow.domain false Rows.rankTablesRow.laid) (((OpenSpec.ofChange Rows.rankTablesSpec).at F).post enc Tryd.prog Tryd.f4 false true false false) := by
  obtain ⟨places, hx⟩ := reads os enc
  refine returnsInHanded_of_row (C := Tryd.checked) (s := OpenSpec.ofChange Rows.rankTablesSpec) own started (by kernel_rfl) Tryd.func4
    (witness_row_at (enc := enc) (C := Tryd.checked) false (laidWorld os) args0 rfl (by kernel_rfl) (by kernel_rfl) (by kernel_rfl)
      (OpenSpec.preRow_of_cond 8 hx (by kernel_rfl) (fun k hk => by cases hk) (by kernel_rfl) (laid_met os))) ?_
  intro W base args ds gs before hval hW _ _ _ hL _ _
  exact contract H enc W base args ds gs before hval hW (laidW hL)
theorem said : Rows.RankTablesSaid :=
  OpenClaim.holds_of_cond 4 Tryd.f4 rfl rfl rfl rfl rfl rfl rfl ⟨rfl, rfl, rfl, rfl, rfl⟩ rfl rfl rfl rfl rfl (by kernel_rfl) Tryd.func4 (by kernel_rfl)
    (of_decide_eq_true (by kernel_rfl)) (by unfold Func.isWrapper; first | (rw [if_pos (by decide +kernel)]; kernel_rfl) | (rw [if_neg (by decide +kernel)]; exact ⟨rfl, rfl⟩))
    (fun os started H enc _ F => by rw [OpenClaim.pre_eq_preRow]; exact lifted os started H enc F)
theorem plain (f : FuncId) (fn : Func) (hf : Tryd.pinned.checked.prog.funcNamed "roundelay/roundelaylaw38.RankTables" = some f) (hfn : Tryd.pinned.checked.prog.funcs[f]? = some fn) :
    false = Tryd.pinned.checked.prog.looks [] ∧ ∀ (j : Nat) t, fn.params[j]? = some t → Tryd.pinned.checked.prog.wantsStandIn t = false := by
  obtain rfl : f = 4 := Option.some.inj ((show Tryd.prog.funcNamed "roundelay/roundelaylaw38.RankTables" = some 4 by kernel_rfl).symm.trans hf) |>.symm
  obtain rfl : fn = Tryd.f4 := (Option.some.inj (Tryd.func4.symm.trans hfn)).symm
  refine ⟨by kernel_rfl, fun j t ht => ?_⟩
  rw [Tryd.params4] at ht
  have : t = 33 ∨ t = 3 := by simpa using Array.mem_of_getElem? ht
  rcases this with rfl | rfl
  · exact (show Tryd.prog.wantsStandIn 33 = false by kernel_rfl)
  · exact (show Tryd.prog.wantsStandIn 3 = false by kernel_rfl)
end Rt
/-- THE CARD. -/
theorem cardB : Rows.RankTablesCardSaid :=
  Claim7.holds_tied_plain_at .later [] _ _ _ _ Rt.said (fun _ h => by cases h) (by kernel_rfl) (fun _ h => by cases h) rankTables_row_tie rfl ⟨rfl, rfl⟩ (by kernel_rfl) rfl Rt.plain (by kernel_rfl)

end Go.Proofs.YtglghnfbkiondaaDoor
