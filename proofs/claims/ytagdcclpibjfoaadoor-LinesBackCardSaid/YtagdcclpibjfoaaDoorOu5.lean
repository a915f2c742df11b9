/-
  Ops (5): a world for the witness: what law 5's rows list; OpsUnpack's row and card.
-/
import Derived.Test.YtagdcclpibjfoaaDoorOu4
namespace Go.Proofs.YtagdcclpibjfoaaDoor
open Go.ChangeShapes Go.WideShapes Go.ChangeAt Go.RowKit Go.Vm

theorem own05 : ownKnob Tryd.prog.godebug = none := by kernel_rfl
theorem laidOut05 : laidOutB Tryd.prog = true := by kernel_rfl

/-- A table as its variable's memory bears it. -/
def flatD : Nat → DataW Unit → List Value
  | 0, _ => []
  | n + 1, d => match d with
    | .lit (.int k z) => [.int k z]
    | .agg l => l.flatMap (flatD n)
    | _ => []
def layCells (o : Obj) (vs : List Value) : Obj := match o with
  | .cells _ t frozen => .cells vs.toArray t frozen
  | o => o
def textOf : DataW Unit → Value
  | .iface _ (.ptr (.agg [.lit (.string b)])) => .string ⟨b.toArray⟩
  | _ => .string ⟨#[]⟩
noncomputable def laidWorld05 (os : Os) : World :=
  { World.holding Tryd.prog os ⟨#[], #[], []⟩ with heap :=
      ((((((((((World.holding Tryd.prog os ⟨#[], #[], []⟩).heap.modify 6 fun o => layCells o (flatD 4 Rows.laid_math_bits_deBruijn32tab)).modify 7 fun o => layCells o (flatD 4 Rows.laid_math_bits_deBruijn64tab)).modify 1 fun o => layCells o (flatD 4 Rows.laid_internal_strconv_uint64pow10)).modify 5
        fun o => layCells o (flatD 4 Rows.laid_unicode_utf8_acceptRanges)).modify 4 fun o => layCells o (flatD 4 Rows.laid_unicode_utf8_first)).modify 3 fun o => layCells o [.iface 203 (.pointer (some ⟨(World.holding Tryd.prog os ⟨#[], #[], []⟩).heap.size, 0, none⟩))]).modify 2
        fun o => layCells o [.iface 203 (.pointer (some ⟨(World.holding Tryd.prog os ⟨#[], #[], []⟩).heap.size + 1, 0, none⟩))]).push (.cells #[textOf Rows.laid_strconv_ErrRange] 205)).push (.cells #[textOf Rows.laid_strconv_ErrSyntax] 205)) }

-- UNPACK
def argsU : Array Value := #[.int .u64 0]
theorem laid_metU (os : Os) : laidMet Tryd.prog Rows.opsUnpackRow.laid ((laidWorld05 os).forCall (fun _ _ => 0) ⟨#[], argsU, []⟩).memory :=
  laidMet_of_run' 8 (by kernel_rfl) (by kernel_rfl)

theorem readsU (os : Os) {H : Type} (enc : TypeId × Value → H) : ∃ places, DataW.whole enc Tryd.prog ((laidWorld05 os).forCall (fun _ _ => 0) ⟨#[], argsU, []⟩).memory Tryd.f10.params.toList Rows.opsUnpackSpec.vars false argsU.toList 8 = some ([.lit (.int .u64 0)], [], places) :=
  ⟨[], by kernel_rfl⟩
set_option maxRecDepth 100000 in
theorem readable10 : ∀ t ∈ Tryd.f10.params.toList, Tryd.prog.readableRec t = true ∧ t < Tryd.prog.types.size := by
  have h : (Tryd.prog.readableRec 30 && Nat.blt 30 Tryd.prog.types.size) = true := by kernel_rfl
  simp only [Bool.and_eq_true] at h
  intro t ht
  rw [Tryd.params10] at ht
  have : t = 30 := by simpa using ht
  subst this
  exact ⟨h.1, Nat.le_of_ble_eq_true h.2⟩
theorem u64_nat {a : Int} (h : (Lit.int .u64 a).wf = true) : ∃ m : Nat, m < 2 ^ 64 ∧ a = (m : Int) := by
  simp only [Lit.wf, Bool.and_eq_true, decide_eq_true_eq] at h
  have h1 : IntKind.u64.min = 0 := by decide
  have h2 : IntKind.u64.max = 18446744073709551615 := by decide
  exact ⟨a.toNat, by omega, by omega⟩

set_option maxRecDepth 100000 in
/-- WHAT THE WALK GIVES, FOR EVERY ARGUMENT. -/
theorem contractU (H : Type) (enc : TypeId × Value → H) (W : World) (base : Nat) (args : Array Value) (ds gs : List (DataW H)) (before : List MemPlace)
    (hval : ∀ (j : Nat) t v, Tryd.f10.params[j]? = some t → args[j]? = some v → Value.okWide Tryd.prog W .any base t v)
    (hW : DataW.Whole enc Tryd.prog Tryd.f10.params.toList Rows.opsUnpackSpec.vars false W args.toList ds gs before) :
    Calls Tryd.prog 10 args W fun e W' => ∃ v, e = .returned v ∧ Rows.opsUnpackSpec.post enc Tryd.prog Tryd.f10 false true false false W args v W' := by
  have hW' := hW
  obtain ⟨p, q, hA0, hV, rfl, hfz, hnd⟩ := hW
  have hA : DataW.TrodAll enc Tryd.prog W 0 (fun _ => true) true Tryd.f10.params.toList args.toList ds p := hA0
  rw [Tryd.params10] at hA hval
  obtain ⟨v0, vs0, d0, ds0, p0, q0, hargs, rfl, rfl, h0, r0⟩ := trodAll_cons hA
  obtain ⟨rfl, rfl, rfl⟩ := trodAll_nil r0
  obtain rfl : args = #[v0] := by cases args; simp_all
  obtain ⟨a, rfl, rfl, rfl, wa⟩ := open_int Tryd.underlying30 (hval 0 30 v0 rfl rfl) h0
  obtain ⟨m, hm, rfl⟩ := u64_nat wa
  refine (unpack_walk W m hm).mono fun e W' ⟨he, hg⟩ => ⟨_, he, ?_⟩
  exact law_shut (tb := 4) laidOut05 readable10 (by kernel_rfl) Tryd.underlying4 hW' rfl rfl rfl rfl (below_of_framed hg)

set_option maxRecDepth 100000 in
theorem liftedU (os : Os) (started : os.Started) (H : Type) (enc : TypeId × Value → H) (F : Stop.Interp) :
    ReturnsInHanded {} Tryd.checked os 10 .any ((OpenSpec.ofChange Rows.opsUnpackSpec).preRow enc Tryd.prog Tryd.f10 Rows.opsUnpackRow.domain false Rows.opsUnpackRow.laid) (((OpenSpec.ofChange Rows.opsUnpackSpec).at F).post enc Tryd.prog Tryd.f10 false true false false) := by
  obtain ⟨places, hx⟩ := readsU os enc
  refine returnsInHanded_of_row (C := Tryd.checked) (s := OpenSpec.ofChange Rows.opsUnpackSpec) own05 started (by kernel_rfl) Tryd.func10
    (witness_row_at (enc := enc) (C := Tryd.checked) false (laidWorld05 os) argsU rfl (by kernel_rfl) (by kernel_rfl) (by kernel_rfl)
      (OpenSpec.preRow_of_cond 8 hx (by kernel_rfl) (fun k hk => by cases hk) (by kernel_rfl) (laid_metU os))) ?_
  intro W base args ds gs before hval hW _ _ _ hL _ _
  exact contractU H enc W base args ds gs before hval hW

theorem saidU : Rows.OpsUnpackSaid :=
  OpenClaim.holds_of_cond 10 Tryd.f10 rfl rfl rfl rfl rfl rfl rfl ⟨rfl, rfl, rfl, rfl, rfl⟩ rfl rfl rfl rfl rfl (by kernel_rfl) Tryd.func10 (by kernel_rfl)
    (of_decide_eq_true (by kernel_rfl)) (by unfold Func.isWrapper; first | (rw [if_pos (by decide +kernel)]; kernel_rfl) | (rw [if_neg (by decide +kernel)]; exact ⟨rfl, rfl⟩))
    (fun os started H enc _ F => by rw [OpenClaim.pre_eq_preRow]; exact liftedU os started H enc F)

theorem plainU (f : FuncId) (fn : Func) (hf : Tryd.pinned.checked.prog.funcNamed "roundelay/roundelaylaw05.OpsUnpack" = some f) (hfn : Tryd.pinned.checked.prog.funcs[f]? = some fn) :
    true = Tryd.pinned.checked.prog.looks [] ∧ ∀ (j : Nat) t, fn.params[j]? = some t → Tryd.pinned.checked.prog.wantsStandIn t = false := by
  obtain rfl : f = 10 := Option.some.inj ((show Tryd.prog.funcNamed "roundelay/roundelaylaw05.OpsUnpack" = some 10 by kernel_rfl).symm.trans hf) |>.symm
  obtain rfl : fn = Tryd.f10 := (Option.some.inj (Tryd.func10.symm.trans hfn)).symm
  refine ⟨by kernel_rfl, fun j t ht => ?_⟩
  rw [Tryd.params10] at ht
  obtain rfl : t = 30 := by simpa using Array.mem_of_getElem? ht
  exact (show Tryd.prog.wantsStandIn 30 = false by kernel_rfl)

/-- THE CARD. -/
theorem cardU : Rows.OpsUnpackCardSaid :=
  Claim7.holds_tied_plain_at .later [] _ _ _ _ saidU (fun _ h => by cases h) (by kernel_rfl) (fun _ h => by cases h) opsUnpack_row_tie rfl ⟨rfl, rfl⟩ (by kernel_rfl) rfl plainU (by kernel_rfl)

end Go.Proofs.YtagdcclpibjfoaaDoor
