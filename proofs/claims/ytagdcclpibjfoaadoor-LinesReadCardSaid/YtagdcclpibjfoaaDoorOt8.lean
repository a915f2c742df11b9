/-
  OpsTexts (8): the law, walked; what its row lists; its row and card.
-/
import Derived.Test.YtagdcclpibjfoaaDoorOt7
import Derived.Test.YtagdcclpibjfoaaDoorOu5
import Derived.Lib.LaidTab
import Derived.MakeChecks
import Derived.HandedShaped
import Derived.Shelf.Vars
import Derived.LaidLaws
import Derived.ChangeMaps5
namespace Go.Proofs.YtagdcclpibjfoaaDoor
open Go.ChangeShapes Go.WideShapes Go.ChangeAt Go.RowKit Go.Vm Go.Joins Txt
namespace Ot

-- THE LAW
def opB : AVal := .agg [iv 0, iv 1, iv 2, iv 3]
def rsB : AVal := .agg [iv 4, iv 5]
def pOp : AVal := .tuple [.agg [iv 10, iv 11, iv 12, iv 13], .bool (.var 0)]
def pRs : AVal := .tuple [.agg [iv 14, iv 15], .bool (.var 1)]
/-- What answers so where it is asked so. -/
def spK (a u : AVal) : SpG := fun args H nl cs => match args with
  | [x] => cond (AVal.beq x a) (some [.ret u H nl cs]) none
  | _ => none
theorem spK_ok {β : Base} {g : FuncId} {a u : AVal} (h : ∀ ρ H nl w, HRel β ρ H nl w → ∃ xv uv, a.den ρ = some xv ∧ u.den ρ = some uv ∧ Calls Tryd.prog g #[xv] w (fun e w' => e = .returned uv ∧ Framed w w')) : SpGOk Tryd.prog β g (spK a u) := by
  intro args H nl cs ls ρ w xs hr hx hh hc
  unfold spK at hr
  split at hr
  rotate_left
  · cases hr
  rename_i x
  cases hb : AVal.beq x a with
  | false => rw [hb] at hr; cases hr
  | true =>
    rw [hb] at hr; cases hr
    obtain rfl := AVal.beq_eq _ _ hb
    obtain ⟨xv, uv, h1, h2, h3⟩ := h ρ H nl w hh
    simp only [AVal.denL, h1, Option.some.injEq] at hx
    subst hx
    exact spV_ok h3 h2 hh hc
def spF : CallF := spL [(42, spA spFirst05), (54, spK (.str s5) pOp), (55, spK (.str s5) pOp), (56, spK (.str s5) pRs), (57, spK (.str s5) pRs), (58, spK opB (.str (.var 6))), (59, spK opB (.str (.var 6))), (60, spK rsB (.str (.var 7))), (61, spK rsB (.str (.var 7)))]
def argsT : List AVal := [opB, rsB, .str s5]
noncomputable def body11 : Code := Tryd.f11.body.getD .ret
theorem run11f : (run Tryd.prog [(127, .same)] spF 8000 false 11 (entry Tryd.f11 body11 argsT .leaf 0 [(.cmp .gtr (.slen s5) (.lit 500), false)])).map (·.all (retIs (.bool (.lit true)))) = some true := by kernel_rfl
theorem run11t : (run Tryd.prog [(127, .same)] (spL [(42, spA spFirst05)]) 8000 false 11 (entry Tryd.f11 body11 argsT .leaf 0 [(.cmp .gtr (.slen s5) (.lit 500), true)])).map (·.all (retIs (.bool (.lit true)))) = some true := by kernel_rfl
theorem parV_form (ws : List (List UInt8)) : ∃ c k a b t, parV ws = .tuple #[opV4 c k a b, .bool t] := by
  unfold parV
  split
  · exact ⟨_, _, _, _, _, rfl⟩
  · exact ⟨_, _, _, _, _, rfl⟩
theorem respV_form (ws : List (List UInt8)) : ∃ k v t, respV ws = .tuple #[rsV k v, .bool t] := by
  unfold respV
  split
  · exact ⟨_, _, _, rfl⟩
  · exact ⟨_, _, _, rfl⟩
/-- Just these names. -/
def GE (ρ0 : Env) : GP := fun I B S _ _ => I = ρ0.I ∧ B = ρ0.B ∧ S = ρ0.S
abbrev InJ (x : Int) : Prop := -9223372036854775808 ≤ x ∧ x < 9223372036854775808
def ρT (l : List Int) (x y : Bool) (s t u : ByteArray) : Env := ⟨fun i => l.getD i 0, fun i => if i = 0 then x else y, fun i => if i = 5 then s else if i = 6 then t else u, fun _ => undef, fun _ => none, F0⟩
theorem cellAt' {w0 w : World} {b : Nat} {v : Value} (h : w0.cell? ⟨b, 0, none⟩ = some v) {β : Base} {ρ : Env} {H : Heap} {nl : Nat} (e : β.w0 = w0) (hown : β.own = []) (hr : HRel β ρ H nl w) : w.cell? ⟨b, 0, none⟩ = some v := cell_of' (e ▸ h) hown hr
theorem texts_walk (w : World) (hT : TabW w) (hM : MaxW w) (hE : ErrW w) {c k a b r v : Int} (hc : InJ c) (hk : InJ k) (ha : InJ a) (hb : InJ b) (hr : InJ r) (hv : InJ v) (s : ByteArray) :
    Calls Tryd.prog 11 #[opV4 c k a b, rsV r v, .string s] w (fun e w' => e = .returned (.bool true) ∧ Framed w w') := by
  obtain ⟨p0, p1, p2, p3, pb, hpf⟩ := parV_form (wordsOf s.data.toList)
  obtain ⟨q0, q1, qb, hq⟩ := respV_form (wordsOf s.data.toList)
  generalize hρ : ρT [c, k, a, b, r, v, 0, 0, 0, 0, p0, p1, p2, p3, q0, q1] pb qb s ⟨(opTextR c k a b).toArray⟩ ⟨(respTextR r v).toArray⟩ = ρ
  have hN : ∀ i, ρ.N i = none := fun i => by rw [← hρ]; rfl
  have hx : AVal.denL ρ argsT = some [opV4 c k a b, rsV r v, .string s] := by rw [← hρ]; rfl
  rcases Nat.lt_or_ge 500 s.size with hbig | hsm
  · refine calls_ret (β := ⟨w, [], GE ρ⟩) (ρ := ρ) ext1_ok (spL_ok fun p hp => ?_) rfl Tryd.func11 rfl run11t hx (HRel.startG w _ hN ⟨rfl, rfl, rfl⟩) (CRel_cons.2 ⟨?_, CRel_nil.2 trivial⟩) (fun _ _ => rfl)
    · rw [List.mem_singleton.1 hp]; exact spA_ok spFirst05_ok
    · rw [← hρ]
      show some (decide ((s.size : Int) > 500)) = some true
      simp; omega
  · refine calls_ret (β := ⟨w, [], GE ρ⟩) (ρ := ρ) ext1_ok (spL_ok fun p hp => ?_) rfl Tryd.func11 rfl run11f hx (HRel.startG w _ hN ⟨rfl, rfl, rfl⟩) (CRel_cons.2 ⟨?_, CRel_nil.2 trivial⟩) (fun _ _ => rfl)
    · have key : ∀ {ρ' : Env} {H : Heap} {nl : Nat} {w' : World}, HRel ⟨w, [], GE ρ⟩ ρ' H nl w' → ρ'.I = ρ.I ∧ ρ'.B = ρ.B ∧ ρ'.S = ρ.S := fun h => h.g
      have hs5 : ∀ ρ' : Env, ρ'.S = ρ.S → (AVal.str s5).den ρ' = some (.string s) := fun ρ' e => by
        show some (Value.string (ρ'.S 5)) = _
        rw [e, ← hρ]; rfl
      have hop : ∀ ρ' : Env, ρ'.I = ρ.I → opB.den ρ' = some (opV4 c k a b) := fun ρ' e => by
        simp only [opB, iv, AVal.den, AVal.denL, IT.den, e, Option.map_some]
        rw [← hρ]; rfl
      have hrs : ∀ ρ' : Env, ρ'.I = ρ.I → rsB.den ρ' = some (rsV r v) := fun ρ' e => by
        simp only [rsB, iv, AVal.den, AVal.denL, IT.den, e, Option.map_some]
        rw [← hρ]; rfl
      have h6 : ∀ ρ' : Env, ρ'.S = ρ.S → (AVal.str (.var 6)).den ρ' = some (.string ⟨(opTextR c k a b).toArray⟩) := fun ρ' e => by
        show some (Value.string (ρ'.S 6)) = _
        rw [e, ← hρ]; rfl
      have h7 : ∀ ρ' : Env, ρ'.S = ρ.S → (AVal.str (.var 7)).den ρ' = some (.string ⟨(respTextR r v).toArray⟩) := fun ρ' e => by
        show some (Value.string (ρ'.S 7)) = _
        rw [e, ← hρ]; rfl
      have hpo : ∀ ρ' : Env, ρ'.I = ρ.I → ρ'.B = ρ.B → pOp.den ρ' = some (parV (wordsOf s.data.toList)) := fun ρ' e e2 => by
        simp only [pOp, iv, AVal.den, AVal.denL, IT.den, BT.den, e, e2, Option.map_some]
        rw [hpf, ← hρ]; rfl
      have hpr : ∀ ρ' : Env, ρ'.I = ρ.I → ρ'.B = ρ.B → pRs.den ρ' = some (respV (wordsOf s.data.toList)) := fun ρ' e e2 => by
        simp only [pRs, iv, AVal.den, AVal.denL, IT.den, BT.den, e, e2, Option.map_some]
        rw [hq, ← hρ]; rfl
      have tT : ∀ {ρ' : Env} {H : Heap} {nl : Nat} {w' : World}, HRel ⟨w, [], GE ρ⟩ ρ' H nl w' → TabW w' := fun h => TabW.of hT rfl h
      have tM : ∀ {ρ' : Env} {H : Heap} {nl : Nat} {w' : World}, HRel ⟨w, [], GE ρ⟩ ρ' H nl w' → MaxW w' := fun h => by obtain ⟨m, hm⟩ := hM; exact ⟨m, cellAt' hm rfl rfl h⟩
      have tE : ∀ {ρ' : Env} {H : Heap} {nl : Nat} {w' : World}, HRel ⟨w, [], GE ρ⟩ ρ' H nl w' → ErrW w' := fun h => ErrW.of (β := ⟨w, [], GE ρ⟩) hE rfl h
      simp only [spF, List.mem_cons, List.not_mem_nil, or_false] at hp
      rcases hp with rfl | rfl | rfl | rfl | rfl | rfl | rfl | rfl | rfl
      · exact spA_ok spFirst05_ok
      · exact spK_ok fun ρ' H nl w' h => ⟨_, _, hs5 ρ' (key h).2.2, hpo ρ' (key h).1 (key h).2.1, parse54a w' (tT h) (tM h) (tE h) s (by omega)⟩
      · exact spK_ok fun ρ' H nl w' h => ⟨_, _, hs5 ρ' (key h).2.2, hpo ρ' (key h).1 (key h).2.1, parse55a w' (tT h) (tM h) (tE h) s (by omega)⟩
      · exact spK_ok fun ρ' H nl w' h => ⟨_, _, hs5 ρ' (key h).2.2, hpr ρ' (key h).1 (key h).2.1, resp56a w' (tT h) (tM h) (tE h) s (by omega)⟩
      · exact spK_ok fun ρ' H nl w' h => ⟨_, _, hs5 ρ' (key h).2.2, hpr ρ' (key h).1 (key h).2.1, resp57a w' (tT h) (tM h) (tE h) s (by omega)⟩
      · exact spK_ok fun ρ' H nl w' h => ⟨_, _, hop ρ' (key h).1, h6 ρ' (key h).2.2, text58 w' (tT h) hc hk ha hb⟩
      · exact spK_ok fun ρ' H nl w' h => ⟨_, _, hop ρ' (key h).1, h6 ρ' (key h).2.2, text59 w' hc hk ha hb⟩
      · exact spK_ok fun ρ' H nl w' h => ⟨_, _, hrs ρ' (key h).1, h7 ρ' (key h).2.2, text60 w' (tT h) hr hv⟩
      · exact spK_ok fun ρ' H nl w' h => ⟨_, _, hrs ρ' (key h).1, h7 ρ' (key h).2.2, text61 w' hr hv⟩
    · rw [← hρ]
      show some (decide ((s.size : Int) > 500)) = some false
      simp; omega
-- WHAT THE ROW LISTS
theorem cell_of_var {P : Program} {W : World} {n : String} {g : Nat} {cs : Array Value} {v : Value} (hg : P.globalNamed n = some g) (h : W.var? P n = some cs) (hv : cs.toList = [v]) : W.cell? ⟨g, 0, none⟩ = some v := by
  unfold World.var? at h
  rw [hg, Option.bind_some] at h
  split at h
  · rename_i c t f hh
    cases h
    rw [cell_of W hh]
    have : cs = #[v] := by apply Array.toList_inj.1; simpa using hv
    rw [this]; rfl
  · cases h
theorem laidW {W : World} (h : laidMetH Tryd.prog Rows.opsTextsRow.laid W) : TabW W ∧ ErrW W := by
  rw [MakeChecks.laidMetH_plain _ _ _ (by kernel_rfl)] at h
  obtain ⟨ps, ⟨_, _, _, _, _, _, _, _, _, _, ⟨_, _, _, _, _, _, _, _, _, _, ⟨g', t', cs, fuel, p, q, hg', ht', hvar, hd, ⟨_, _, _, _, _, _, _, _, _, _, ⟨g1, t1, cs1, fuel1, p1, q1, hg1, ht1, hvar1, hd1, ⟨g2, t2, cs2, fuel2, p2, q2, hg2, ht2, hvar2, hd2, _, _⟩, _⟩, _⟩, _⟩, _⟩, _⟩, _⟩ := h
  refine ⟨?_, ?_, ?_⟩
  · have hg : Tryd.prog.globalNamed "internal/strconv.uint64pow10" = some 1 := by kernel_rfl
    obtain rfl := Option.some.inj (hg.symm.trans hg')
    have hty : ∃ t e, (Tryd.prog.globals[1]?).map (·.type) = some t ∧ Tryd.prog.underlying t = some (.array 20 e) ∧ Tryd.prog.underlying e = some (.int .u64) ∧ Tryd.prog.cellsOf e = 1 ∧ Tryd.prog.cellsOf t = 20 := ⟨184, 30, by kernel_rfl, by kernel_rfl, by kernel_rfl, by kernel_rfl, by kernel_rfl⟩
    obtain ⟨t, e, h1, h2, h3, h4, h5⟩ := hty
    obtain rfl := Option.some.inj (h1.symm.trans ht')
    have hdd : Rows.laid_internal_strconv_uint64pow10 = (Lib.tabData .u64 Lib.pow10Tab : DataW Unit) := by kernel_rfl
    unfold TabW Lib.TabIs
    rw [hvar, ← Lib.cells_of_tab h2 h3 h4 h5 (hdd ▸ hd)]
  · have hg : Tryd.prog.globalNamed "strconv.ErrSyntax" = some 2 := by kernel_rfl
    obtain rfl := Option.some.inj (hg.symm.trans hg2)
    have hty : ∃ t ms, (Tryd.prog.globals[2]?).map (·.type) = some t ∧ Tryd.prog.underlying t = some (.interface ms) := ⟨100, #[("Error", 104)], by kernel_rfl, by kernel_rfl⟩
    obtain ⟨t, ms, h1, h2⟩ := hty
    obtain rfl := Option.some.inj (h1.symm.trans ht2)
    obtain ⟨_, u, v, hcs, _, _⟩ := iface_of_trod h2 hd2
    exact ⟨_, cell_of_var hg hvar2 hcs, .inr ⟨_, _, rfl⟩⟩
  · have hg : Tryd.prog.globalNamed "strconv.ErrRange" = some 3 := by kernel_rfl
    obtain rfl := Option.some.inj (hg.symm.trans hg1)
    have hty : ∃ t ms, (Tryd.prog.globals[3]?).map (·.type) = some t ∧ Tryd.prog.underlying t = some (.interface ms) := ⟨100, #[("Error", 104)], by kernel_rfl, by kernel_rfl⟩
    obtain ⟨t, ms, h1, h2⟩ := hty
    obtain rfl := Option.some.inj (h1.symm.trans ht1)
    obtain ⟨_, u, v, hcs, _, _⟩ := iface_of_trod h2 hd1
    exact ⟨_, cell_of_var hg hvar1 hcs, .inr ⟨_, _, rfl⟩⟩
theorem maxW_shape' {W : World} (h : W.ShapedOpen Tryd.prog) : MaxW W := by
  have hz : ∃ zero, ((begin Tryd.prog (fun _ _ => 0) default).world.heap[0]?).bind Obj.row? = some (zero, 3) ∧ zero.size = 1 := ⟨#[.int .i64 0], by kernel_rfl, by kernel_rfl⟩
  obtain ⟨zero, h0, hs⟩ := hz
  exact cell_of_shapedOpen_int h (Nat.le_of_ble_eq_true (by kernel_rfl)) h0 hs (by kernel_rfl) (by kernel_rfl) Tryd.underlying3
-- ROW AND CARD
def args0 : Array Value := #[.agg #[.int .i64 0, .int .i64 0, .int .i64 0, .int .i64 0], .agg #[.int .i64 0, .int .i64 0], .string ⟨#[]⟩]
theorem laid_met (os : Os) : laidMet Tryd.prog Rows.opsTextsRow.laid ((laidWorld05 os).forCall (fun _ _ => 0) ⟨#[], args0, []⟩).memory :=
  laidMet_of_run' 8 (by kernel_rfl) (by kernel_rfl)
theorem reads (os : Os) {H : Type} (enc : TypeId × Value → H) : ∃ places, DataW.whole enc Tryd.prog ((laidWorld05 os).forCall (fun _ _ => 0) ⟨#[], args0, []⟩).memory Tryd.f11.params.toList Rows.opsTextsSpec.vars false args0.toList 8 =
    some ([.agg [.lit (.int .i64 0), .lit (.int .i64 0), .lit (.int .i64 0), .lit (.int .i64 0)], .agg [.lit (.int .i64 0), .lit (.int .i64 0)], .lit (.string [])], [], places) :=
  ⟨[], by kernel_rfl⟩
set_option maxRecDepth 100000 in
theorem readable11 : ∀ t ∈ Tryd.f11.params.toList, Tryd.prog.readableRec t = true ∧ t < Tryd.prog.types.size := by
  have h : ((Tryd.prog.readableRec 26 && Nat.blt 26 Tryd.prog.types.size) && (Tryd.prog.readableRec 28 && Nat.blt 28 Tryd.prog.types.size) && (Tryd.prog.readableRec 9 && Nat.blt 9 Tryd.prog.types.size)) = true := by kernel_rfl
  simp only [Bool.and_eq_true] at h
  intro t ht
  rw [Tryd.params11] at ht
  have : t = 26 ∨ t = 28 ∨ t = 9 := by simpa using ht
  rcases this with rfl | rfl | rfl
  · exact ⟨h.1.1.1, Nat.le_of_ble_eq_true h.1.1.2⟩
  · exact ⟨h.1.2.1, Nat.le_of_ble_eq_true h.1.2.2⟩
  · exact ⟨h.2.1, Nat.le_of_ble_eq_true h.2.2⟩
theorem one_i64' {H : Type} {enc : TypeId × Value → H} {P : Program} {W : World} {base : Nat} {sp : Nat → Bool} {held : Bool} {n : Nat} {t : TypeId} {c : Value} {y : DataW H × List MemPlace} (ht : P.underlying t = some (.int .i64)) (h : DataW.trod enc P W base sp held n t [c] = some y) :
    ∃ z, c = .int .i64 z ∧ InJ z := by
  obtain ⟨z, hz, _, hw⟩ := DataW.trod_int ht h
  simp only [List.cons.injEq, and_true] at hz
  simp only [Lit.wf, Bool.and_eq_true, decide_eq_true_eq] at hw
  have h1 : IntKind.i64.min = -9223372036854775808 := by decide
  have h2 : IntKind.i64.max = 9223372036854775807 := by decide
  exact ⟨z, hz, by omega, by omega⟩
set_option maxRecDepth 100000 in
/-- WHAT THE WALK GIVES, FOR EVERY ARGUMENT. -/
theorem contract (H : Type) (enc : TypeId × Value → H) (W : World) (base : Nat) (args : Array Value) (ds gs : List (DataW H)) (before : List MemPlace)
    (hval : ∀ (j : Nat) t v, Tryd.f11.params[j]? = some t → args[j]? = some v → Value.okWide Tryd.prog W .any base t v)
    (hW : DataW.Whole enc Tryd.prog Tryd.f11.params.toList Rows.opsTextsSpec.vars false W args.toList ds gs before) (hT : TabW W) (hM : MaxW W) (hE : ErrW W) :
    Calls Tryd.prog 11 args W fun e W' => ∃ v, e = .returned v ∧ Rows.opsTextsSpec.post enc Tryd.prog Tryd.f11 false true false false W args v W' := by
  have hW' := hW
  obtain ⟨p, q, hA0, hV, rfl, hfz, hnd⟩ := hW
  have hA : DataW.TrodAll enc Tryd.prog W 0 (fun _ => true) true Tryd.f11.params.toList args.toList ds p := hA0
  rw [Tryd.params11] at hA hval
  obtain ⟨v0, vs0, d0, ds0, p0, q0, hargs, rfl, rfl, h0, r0⟩ := trodAll_cons hA
  obtain ⟨v1, vs1, d1, ds1, p1, q1, rfl, rfl, rfl, h1, r1⟩ := trodAll_cons r0
  obtain ⟨v2, vs2, d2, ds2, p2, q2, rfl, rfl, rfl, h2, r2⟩ := trodAll_cons r1
  obtain ⟨rfl, rfl, rfl⟩ := trodAll_nil r2
  obtain rfl : args = #[v0, v1, v2] := by cases args; simp_all
  have walk : Calls Tryd.prog 11 #[v0, v1, v2] W fun e w' => e = .returned (.bool true) ∧ Framed W w' := by
    obtain ⟨c0, c1, c2, c3, y0, y1, y2, y3, n, rfl, _, _, g0, g1, g2, g3⟩ := open_agg4 Tryd.underlying26 (by kernel_rfl) (by kernel_rfl) (hval 0 26 v0 rfl rfl) h0
    obtain ⟨k0, k1, z0, z1, n', rfl, _, _, e0, e1⟩ := open_agg2 Tryd.underlying28 (by kernel_rfl) (by kernel_rfl) (hval 1 28 v1 rfl rfl) h1
    obtain ⟨s, rfl, _, _, _⟩ := Go.ChangeMaps.open_string Tryd.underlying9 (hval 2 9 v2 rfl rfl) h2
    obtain ⟨_, rfl, l0⟩ := one_i64' Tryd.underlying3 g0
    obtain ⟨_, rfl, l1⟩ := one_i64' Tryd.underlying3 g1
    obtain ⟨_, rfl, l2⟩ := one_i64' Tryd.underlying3 g2
    obtain ⟨_, rfl, l3⟩ := one_i64' Tryd.underlying3 g3
    obtain ⟨_, rfl, l8⟩ := one_i64' Tryd.underlying3 e0
    obtain ⟨_, rfl, l9⟩ := one_i64' Tryd.underlying3 e1
    exact texts_walk W hT hM hE l0 l1 l2 l3 l8 l9 s
  refine walk.mono fun e W' ⟨he, hg⟩ => ⟨_, he, ?_⟩
  exact law_shut (tb := 4) laidOut05 readable11 (by kernel_rfl) Tryd.underlying4 hW' rfl rfl rfl rfl (below_of_framed hg)
set_option maxRecDepth 100000 in
theorem lifted (os : Os) (started : os.Started) (H : Type) (enc : TypeId × Value → H) (F : Stop.Interp) :
    ReturnsInHanded {} Tryd.checked os 11 .any ((OpenSpec.ofChange Rows.opsTextsSpec).preRow enc Tryd.prog Tryd.f11 Rows.opsTextsRow.domain false Rows.opsTextsRow.laid) (((OpenSpec.ofChange Rows.opsTextsSpec).at F).post enc Tryd.prog Tryd.f11 false true false false) := by
  obtain ⟨places, hx⟩ := reads os enc
  refine returnsInHanded_of_row (C := Tryd.checked) (s := OpenSpec.ofChange Rows.opsTextsSpec) own05 started (by kernel_rfl) Tryd.func11
    (witness_row_at (enc := enc) (C := Tryd.checked) false (laidWorld05 os) args0 rfl (by kernel_rfl) (by kernel_rfl) (by kernel_rfl)
      (OpenSpec.preRow_of_cond 8 hx (by kernel_rfl) (fun k hk => by cases hk) (by kernel_rfl) (laid_met os))) ?_
  intro W base args ds gs before hval hW _ _ _ hL hS _
  exact contract H enc W base args ds gs before hval hW (laidW hL).1 (maxW_shape' hS) (laidW hL).2
theorem said : Rows.OpsTextsSaid :=
  OpenClaim.holds_of_cond 11 Tryd.f11 rfl rfl rfl rfl rfl rfl rfl ⟨rfl, rfl, rfl, rfl, rfl⟩ rfl rfl rfl rfl rfl (by kernel_rfl) Tryd.func11 (by kernel_rfl)
    (of_decide_eq_true (by kernel_rfl)) (by unfold Func.isWrapper; first | (rw [if_pos (by decide +kernel)]; kernel_rfl) | (rw [if_neg (by decide +kernel)]; exact ⟨rfl, rfl⟩))
    (fun os started H enc _ F => by rw [OpenClaim.pre_eq_preRow]; exact lifted os started H enc F)
theorem plain (f : FuncId) (fn : Func) (hf : Tryd.pinned.checked.prog.funcNamed "roundelay/roundelaylaw05.OpsTexts" = some f) (hfn : Tryd.pinned.checked.prog.funcs[f]? = some fn) :
    true = Tryd.pinned.checked.prog.looks [] ∧ ∀ (j : Nat) t, fn.params[j]? = some t → Tryd.pinned.checked.prog.wantsStandIn t = false := by
  obtain rfl : f = 11 := Option.some.inj ((show Tryd.prog.funcNamed "roundelay/roundelaylaw05.OpsTexts" = some 11 by kernel_rfl).symm.trans hf) |>.symm
  obtain rfl : fn = Tryd.f11 := (Option.some.inj (Tryd.func11.symm.trans hfn)).symm
  refine ⟨by kernel_rfl, fun j t ht => ?_⟩
  rw [Tryd.params11] at ht
  have : t = 26 ∨ t = 28 ∨ t = 9 := by simpa using Array.mem_of_getElem? ht
  rcases this with rfl | rfl | rfl
  · exact (show Tryd.prog.wantsStandIn 26 = false by kernel_rfl)
  · exact (show Tryd.prog.wantsStandIn 28 = false by kernel_rfl)
  · exact (show Tryd.prog.wantsStandIn 9 = false by kernel_rfl)
end Ot
end Go.Proofs.YtagdcclpibjfoaaDoor
