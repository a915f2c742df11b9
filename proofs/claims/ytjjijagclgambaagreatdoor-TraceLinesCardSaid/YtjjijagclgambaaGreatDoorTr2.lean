/-
  TraceLines (law 39) holds of every input (its row and its card): the log line of any batch, and which kinds any letters have, are as the document says.
-/
import Derived.Test.YtjjijagclgambaaGreatDoorTr1
import Derived.Test.YtjjijagclgambaaGreatDoorFt
import Derived.ChangeMaps5
namespace Go.Proofs.YtjjijagclgambaaGreatDoor
open Go.ChangeShapes Go.WideShapes Go.ChangeAt Go.RowKit Go.Vm Go.Joins
set_option linter.unusedVariables false
namespace Txt

-- WHAT CAME IN, OPENED
theorem cells50 : Tryz.prog.cellsOf 50 = ks8.length := by kernel_rfl
theorem flat50 : flat Tryz.prog 5 50 = some ks8 := by kernel_rfl
theorem flat22 : flat Tryz.prog 1 22 = some [.u64] := by kernel_rfl
theorem types25 : Tryz.prog.cellTypes Tryz.prog.depth 25 = some [22, 23] := by kernel_rfl
theorem cells25 : Tryz.prog.cellsOf 25 = 2 := by kernel_rfl
theorem cells22 : Tryz.prog.cellsOf 22 = 1 := by kernel_rfl
theorem cells23 : Tryz.prog.cellsOf 23 = 1 := by kernel_rfl
theorem under25 : ∃ f0 f1 : Field, Tryz.prog.underlying 25 = some (.struct #[f0, f1]) ∧ f0.type = 22 ∧ f0.offset = 0 ∧ f1.type = 23 ∧ f1.offset = 1 := ⟨_, _, Tryz.underlying25, rfl, rfl, rfl, rfl⟩
theorem under23 : Tryz.prog.underlying 23 = some (.slice 50) := Tryz.underlying23
theorem cells1 {v : Value} {a : Option Addr} {l c : Nat} (h : v = .slice a l c) : v.cells.toList = [v] := by subst h; rfl
set_option maxRecDepth 100000 in
theorem open_batch {H : Type} {enc : TypeId × Value → H} {W : World} {base b0 : Nat} {sp : Nat → Bool} {held : Bool} {v : Value} {d : DataW H} {p : List MemPlace} (hv : Value.okWide Tryz.prog W .any b0 25 v) (h : DataW.Trod enc Tryz.prog W base sp held 25 v d p) :
    ∃ (u : Nat) (x : Value), u < 18446744073709551616 ∧ v = .agg #[.int .u64 u, x] ∧ (x = .slice none 0 0 ∨ ∃ b o len cap : Nat, x = .slice (some ⟨b, o, none⟩) len cap ∧ (0 < len → ∃ y, RowAt W b o ks8 len y ∧ InRow ks8 len y)) := by
  obtain ⟨f0, f1, hu, t0, o0, t1, o1⟩ := under25
  have hv2 := hv
  simp only [Value.okWide, hu] at hv2
  obtain ⟨cs, rfl, hsz, ts, hts, _, hcell⟩ := hv2
  rw [types25, Option.some.injEq] at hts
  subst hts
  rw [cells25] at hsz
  obtain ⟨a, x, rfl⟩ : ∃ a x, cs = #[a, x] := by
    obtain ⟨l⟩ := cs
    match l, hsz with
    | [a, x], _ => exact ⟨a, x, rfl⟩
  obtain ⟨fuel, hf⟩ := h
  have hf' : DataW.trod enc Tryz.prog W base sp held fuel 25 [a, x] = some (d, p) := by simpa [Value.cells] using hf
  obtain ⟨y0, y1, n, _, _, h0, h1⟩ := trod_struct2 hu hf'
  rw [t0, o0, cells22] at h0
  rw [t1, o1, cells23] at h1
  have h0 : DataW.trod enc Tryz.prog W base sp held n 22 [a] = some y0 := h0
  have h1 : DataW.trod enc Tryz.prog W base sp held n 23 [x] = some y1 := h1
  obtain ⟨hl, hk⟩ := flat_ok 1 22 [.u64] n [a] y0 flat22 h0
  obtain ⟨z, e0, r0, s0⟩ := hk 0 .u64 rfl
  obtain rfl : a = .int .u64 z := Option.some.inj e0
  have eb : IntKind.u64.min = 0 ∧ IntKind.u64.max = 18446744073709551615 := by decide
  rw [eb.1] at r0
  rw [eb.2] at s0
  obtain ⟨u, rfl⟩ := Int.eq_ofNat_of_zero_le r0
  obtain ⟨t, ht, hc⟩ := hcell 1 x rfl
  obtain rfl : 23 = t := Option.some.inj ht
  have hx : Value.okWide Tryz.prog W .any b0 23 x := by
    simp only [Value.okWide, under23]
    exact hc
  obtain ⟨a0, l0, c0, hxs⟩ := okWide_slice under23 hx
  have hT : DataW.Trod enc Tryz.prog W base sp held 23 x y1.1 y1.2 := ⟨n, by rw [cells1 hxs]; exact h1⟩
  refine ⟨u, x, by omega, rfl, ?_⟩
  rcases open_rowsR under23 cells50 (by decide) flat50 hx hT with h | ⟨b, o, len, cap, h, _, hrow⟩
  · exact .inl h
  · exact .inr ⟨b, o, len, cap, h, hrow⟩
theorem row_ok {W : World} {b o m : Nat} {u : Value} (h : RowAt W b o ks8 m u) (hin : InRow ks8 m u) : OkRow u := by
  have hk : ∀ j, j < 8 → ks8[j]? = some (if j = 1 then .u64 else .i64) := by decide
  have e1 : IntKind.i64.min = -9223372036854775808 ∧ IntKind.i64.max = 9223372036854775807 := by decide
  have e2 : IntKind.u64.min = 0 ∧ IntKind.u64.max = 18446744073709551615 := by decide
  refine ⟨fun n hn => ?_, fun n hn => ?_⟩
  · have hj := hk (n % 8) (by omega)
    rw [if_neg hn] at hj
    have := hin.all hj (n / 8) (by decide)
    rw [e1.1, e1.2, show n / 8 * ks8.length + n % 8 = n from by show n / 8 * 8 + n % 8 = n; omega] at this
    omega
  · have hj := hk (n % 8) (by omega)
    rw [if_pos hn] at hj
    have := hin.all hj (n / 8) (by decide)
    rw [e2.1, e2.2, show n / 8 * ks8.length + n % 8 = n from by show n / 8 * 8 + n % 8 = n; omega] at this
    omega
-- WHAT THE ROW LISTS
theorem maxW_shape {W : World} (h : W.ShapedOpen Tryz.prog) : MaxW W := by
  have hz : ∃ zero, ((begin Tryz.prog (fun _ _ => 0) default).world.heap[0]?).bind Obj.row? = some (zero, 3) ∧ zero.size = 1 := ⟨#[.int .i64 0], by kernel_rfl, by kernel_rfl⟩
  obtain ⟨zero, h0, hs⟩ := hz
  exact cell_of_shapedOpen_int h (Nat.le_of_ble_eq_true (by kernel_rfl)) h0 hs (by kernel_rfl) (by kernel_rfl) Tryz.underlying3
theorem laidW {W : World} (h : laidMetH Tryz.prog Rows.traceLinesRow.laid W) : TabW W := by
  rw [MakeChecks.laidMetH_plain _ _ _ (by kernel_rfl)] at h
  obtain ⟨ps, ⟨_, _, _, _, _, _, _, _, _, _, ⟨_, _, _, _, _, _, _, _, _, _, ⟨g', t', cs, fuel, p, q, hg', ht', hvar, hd, _, _⟩, _⟩, _⟩, _⟩ := h
  have hg : Tryz.prog.globalNamed "internal/strconv.uint64pow10" = some 1 := by kernel_rfl
  obtain rfl := Option.some.inj (hg.symm.trans hg')
  have hty : ∃ t e, (Tryz.prog.globals[1]?).map (·.type) = some t ∧ Tryz.prog.underlying t = some (.array 20 e) ∧ Tryz.prog.underlying e = some (.int .u64) ∧ Tryz.prog.cellsOf e = 1 ∧ Tryz.prog.cellsOf t = 20 := ⟨198, 22, by kernel_rfl, by kernel_rfl, by kernel_rfl, by kernel_rfl, by kernel_rfl⟩
  obtain ⟨t, e, h1, h2, h3, h4, h5⟩ := hty
  obtain rfl := Option.some.inj (h1.symm.trans ht')
  have hdd : Rows.laid_internal_strconv_uint64pow10 = (Lib.tabData .u64 Lib.pow10Tab : DataW Unit) := by kernel_rfl
  unfold TabW Lib.TabIs
  rw [hvar, ← Lib.cells_of_tab h2 h3 h4 h5 (hdd ▸ hd)]
-- ROW AND CARD
theorem own : ownKnob Tryz.prog.godebug = none := by kernel_rfl
theorem laidOut : laidOutB Tryz.prog = true := by kernel_rfl
theorem readable_of {f : Func} (h : f.params.toList.all (fun t => Tryz.prog.readableRec t && Nat.blt t Tryz.prog.types.size) = true) : ∀ t ∈ f.params.toList, Tryz.prog.readableRec t = true ∧ t < Tryz.prog.types.size := fun t ht => by
  have := List.all_eq_true.1 h t ht
  simp only [Bool.and_eq_true] at this
  exact ⟨this.1, Nat.le_of_ble_eq_true this.2⟩
theorem readable3 : ∀ t ∈ Tryz.f3.params.toList, Tryz.prog.readableRec t = true ∧ t < Tryz.prog.types.size := readable_of (by kernel_rfl)
set_option maxRecDepth 100000 in
/-- WHAT THE WALK GIVES, FOR EVERY ARGUMENT. -/
theorem contract (H : Type) (enc : TypeId × Value → H) (W : World) (base : Nat) (args : Array Value) (ds gs : List (DataW H)) (before : List MemPlace)
    (hval : ∀ (j : Nat) t v, Tryz.f3.params[j]? = some t → args[j]? = some v → Value.okWide Tryz.prog W .any base t v)
    (hW : DataW.Whole enc Tryz.prog Tryz.f3.params.toList Rows.traceLinesSpec.vars false W args.toList ds gs before) (hT : TabW W) (hM : MaxW W) :
    Calls Tryz.prog 3 args W fun e W' => ∃ v, e = .returned v ∧ Rows.traceLinesSpec.post enc Tryz.prog Tryz.f3 false true false false W args v W' := by
  have hW' := hW
  obtain ⟨p, q, hA0, hV, rfl, hfz, hnd⟩ := hW
  have hA : DataW.TrodAll enc Tryz.prog W 0 (fun _ => true) true Tryz.f3.params.toList args.toList ds p := hA0
  rw [Tryz.params3] at hA hval
  obtain ⟨v0, vs0, d0, ds0, p0, q0, hargs, rfl, rfl, h0, r0⟩ := trodAll_cons hA
  obtain ⟨v1, vs1, d1, ds1, p1, q1, rfl, rfl, rfl, h1, r1⟩ := trodAll_cons r0
  obtain ⟨rfl, rfl, rfl⟩ := trodAll_nil r1
  obtain rfl : args = #[v0, v1] := by cases args; simp_all
  have walk : Calls Tryz.prog 3 #[v0, v1] W fun e w' => e = .returned (.bool true) ∧ Framed W w' := by
    obtain ⟨u, x, hu, rfl, hx⟩ := open_batch (hval 0 25 v0 rfl rfl) h0
    obtain ⟨s, rfl, _⟩ := ChangeMaps.open_string Tryz.underlying9 (hval 1 9 v1 rfl rfl) h1
    rcases hx with rfl | ⟨b, o, len, cap, rfl, hrow⟩
    · exact law_none hT hM hu s (.inl rfl)
    · rcases Nat.eq_zero_or_pos len with rfl | hpos
      · exact law_none hT hM hu s (.inr ⟨b, o, cap, rfl⟩)
      · obtain ⟨y, hy, hin⟩ := hrow hpos
        exact law_row hT hM hu s (row_ok hy hin) hy
  refine walk.mono fun e W' ⟨he, hg⟩ => ⟨_, he, ?_⟩
  exact law_shut (tb := 4) laidOut readable3 (by kernel_rfl) Tryz.underlying4 hW' rfl rfl rfl rfl (below_of_framed hg)
/-- A table as its variable's memory bears it. -/
def cellsAt : Nat → DataW Unit → List Value
  | 0, _ => []
  | n + 1, .agg l => l.flatMap (cellsAt n)
  | _, .lit (.int k n) => [.int k n]
  | _, _ => []
def lay (o : Obj) (d : DataW Unit) : Obj := match o with
  | .cells _ t frozen => .cells (cellsAt 4 d).toArray t frozen
  | o => o
def args0 : Array Value := #[.agg #[.int .u64 0, .slice none 0 0], .string ⟨#[]⟩]
/-- A world for the witness: the tables hold what their initialisers lay. -/
noncomputable def laidWorld (os : Os) : World :=
  { World.holding Tryz.prog os ⟨#[], #[], []⟩ with heap := (((((World.holding Tryz.prog os ⟨#[], #[], []⟩).heap.modify 2 fun o => lay o Rows.laid_math_bits_deBruijn32tab).modify 3 fun o => lay o Rows.laid_math_bits_deBruijn64tab).modify 1 fun o => lay o Rows.laid_internal_strconv_uint64pow10).modify 5 fun o => lay o Rows.laid_unicode_utf8_acceptRanges).modify 4 fun o => lay o Rows.laid_unicode_utf8_first }
theorem laid_met (os : Os) : laidMet Tryz.prog Rows.traceLinesRow.laid ((laidWorld os).forCall (fun _ _ => 0) ⟨#[], args0, []⟩).memory :=
  laidMet_of_run' 8 (by kernel_rfl) (by kernel_rfl)
theorem reads (os : Os) {H : Type} (enc : TypeId × Value → H) : ∃ places, DataW.whole enc Tryz.prog ((laidWorld os).forCall (fun _ _ => 0) ⟨#[], args0, []⟩).memory Tryz.f3.params.toList Rows.traceLinesSpec.vars false args0.toList 8 = some ([.agg [.lit (.int .u64 0), .nil], .lit (.string [])], [], places) :=
  ⟨[], by kernel_rfl⟩
set_option maxRecDepth 100000 in
theorem lifted (os : Os) (started : os.Started) (H : Type) (enc : TypeId × Value → H) (F : Stop.Interp) :
    ReturnsInHanded {} Tryz.checked os 3 .any ((OpenSpec.ofChange Rows.traceLinesSpec).preRow enc Tryz.prog Tryz.f3 Rows.traceLinesRow.domain false Rows.traceLinesRow.laid) (((OpenSpec.ofChange Rows.traceLinesSpec).at F).post enc Tryz.prog Tryz.f3 false true false false) := by
  obtain ⟨places, hx⟩ := reads os enc
  refine returnsInHanded_of_row (C := Tryz.checked) (s := OpenSpec.ofChange Rows.traceLinesSpec) own started (by kernel_rfl) Tryz.func3
    (witness_row_at (enc := enc) (C := Tryz.checked) false (laidWorld os) args0 rfl (by kernel_rfl) (by kernel_rfl) (by kernel_rfl)
      (OpenSpec.preRow_of_cond 8 hx (by kernel_rfl) (fun k hk => by cases hk) (by kernel_rfl) (laid_met os))) ?_
  intro W base args ds gs before hval hW _ _ _ hL hS _
  exact contract H enc W base args ds gs before hval hW (laidW hL) (maxW_shape hS)
theorem said : Rows.TraceLinesSaid :=
  OpenClaim.holds_of_cond 3 Tryz.f3 rfl rfl rfl rfl rfl rfl rfl ⟨rfl, rfl, rfl, rfl, rfl⟩ rfl rfl rfl rfl rfl traceLines_named Tryz.func3 traceLines_closed traceLines_inst traceLines_wrap
    (fun os started H enc _ F => by rw [OpenClaim.pre_eq_preRow]; exact lifted os started H enc F)
theorem plain (f : FuncId) (fn : Func) (hf : Tryz.pinned.checked.prog.funcNamed "roundelay/roundelaylaw39.TraceLines" = some f) (hfn : Tryz.pinned.checked.prog.funcs[f]? = some fn) :
    true = Tryz.pinned.checked.prog.looks [] ∧ ∀ (j : Nat) t, fn.params[j]? = some t → Tryz.pinned.checked.prog.wantsStandIn t = false := by
  obtain rfl : f = 3 := Option.some.inj ((show Tryz.prog.funcNamed "roundelay/roundelaylaw39.TraceLines" = some 3 by kernel_rfl).symm.trans hf) |>.symm
  obtain rfl : fn = Tryz.f3 := (Option.some.inj (Tryz.func3.symm.trans hfn)).symm
  refine ⟨by kernel_rfl, fun j t ht => ?_⟩
  rw [Tryz.params3] at ht
  have : t = 25 ∨ t = 9 := by simpa using Array.mem_of_getElem? ht
  rcases this with rfl | rfl
  · exact (show Tryz.prog.wantsStandIn 25 = false by kernel_rfl)
  · exact (show Tryz.prog.wantsStandIn 9 = false by kernel_rfl)
end Txt
end Go.Proofs.YtjjijagclgambaaGreatDoor
