/-
  The closed facts of the row LinearSearch, one by one.
-/
import Derived.Test.YtpgonpjakllnjaaRows
import Derived.WalkKit
import Derived.ProofKit
import Derived.OpenShut
import Derived.JoinedOf
import Derived.Test.YtpgonpjakllnjaaLs27
import Derived.Test.YtpgonpjakllnjaaRw
section
namespace Go.Proofs.Ytpgonpjakllnjaa
open Go.ChangeShapes Go.WideShapes Go.ChangeAt Go.RowKit
theorem andT {a b : Bool} (h : a = true) (g : b = true) : (a && b) = true := by rw [h, g]; rfl
theorem linearSearch_k0 : (Rows.linearSearchRow.wf (OpenSpec.ofChange Rows.linearSearchSpec)) = true := by kernel_rfl
theorem linearSearch_k1 : (laidOutB Try.prog) = true := by kernel_rfl
theorem linearSearch_k2 : (mapsRowed Try.prog) = true := by kernel_rfl
theorem linearSearch_k3 : (Try.f3.params.all (Try.prog.readableRec ·)) = true := by kernel_rfl
theorem linearSearch_k4 : (namedTie Try.prog Rows.linearSearchRow.named Rows.linearSearchSpec.vars) = true := by kernel_rfl
theorem linearSearch_k5 : ((Rows.linearSearchRow.stops == [])) = true := by kernel_rfl
theorem linearSearch_k6 : ((Try.prog.stops == [])) = true := by kernel_rfl
theorem linearSearch_k7 : ((Rows.linearSearchRow.knobs == [])) = true := by kernel_rfl
theorem linearSearch_k8 : ((Try.prog.stopKnobs == [])) = true := by kernel_rfl
theorem linearSearch_k9 : ((Rows.linearSearchRow.inPlace == Try.prog.inPlace 3)) = true := by kernel_rfl
theorem linearSearch_k10 : ((Rows.linearSearchRow.unfollowed == Try.prog.unfollowed 3)) = true := by kernel_rfl
theorem linearSearch_k11 : ((Rows.linearSearchRow.recurses == Try.prog.recurses 3)) = true := by kernel_rfl
theorem linearSearch_k12 : ((Rows.linearSearchRow.named == Try.prog.varsNamed 3)) = true := by kernel_rfl
theorem linearSearch_k13 : ((Rows.linearSearchRow.maps == (Try.f3.params.toList ++ Rows.linearSearchSpec.plain.varTypes Try.prog).any (Try.prog.mapsRec ·))) = true := by kernel_rfl
theorem linearSearch_k14 : ((Rows.linearSearchRow.ifaces == (Try.f3.params.toList ++ Rows.linearSearchSpec.plain.varTypes Try.prog).any (Try.prog.ifacesRec ·))) = true := by kernel_rfl
theorem linearSearch_k15 : ((Rows.linearSearchRow.mapsOut == Try.prog.mapsAmong Try.f3.resultTypes.toList)) = true := by kernel_rfl
theorem linearSearch_k16 : ((Rows.linearSearchRow.loops == (Try.f3.params.toList ++ Rows.linearSearchSpec.plain.varTypes Try.prog).any (Try.prog.loopsFrom ·))) = true := by kernel_rfl
theorem linearSearch_k17 : ((Rows.linearSearchRow.wideKeys == (Try.f3.params.toList ++ Rows.linearSearchSpec.plain.varTypes Try.prog ++ Try.f3.resultTypes.toList).any (Try.prog.wideKeysFrom ·))) = true := by kernel_rfl
theorem linearSearch_k18 : (Rows.linearSearchSpec.vars.all (Try.prog.varReadable ·)) = true := by kernel_rfl
theorem linearSearch_k19 : (Try.f3.resultTypes.all (fun t => Try.prog.readableRec t && decide (t < Try.prog.types.size))) = true := by kernel_rfl
theorem linearSearch_k20 : ((Rows.linearSearchRow.ifacesOut == Try.f3.resultTypes.toList.any (Try.prog.ifacesRec ·))) = true := by kernel_rfl
theorem linearSearch_k21 : ((Rows.linearSearchRow.loopsOut == Try.f3.resultTypes.toList.any (Try.prog.loopsFrom ·))) = true := by kernel_rfl
theorem linearSearch_k22 : ((Rows.linearSearchRow.plainKeys == Try.prog.plainKeys)) = true := by kernel_rfl
theorem linearSearch_k23 : (Rows.linearSearchRow.shortTexts.isNone) = true := by kernel_rfl
theorem linearSearch_k24 : (Try.prog.stopsHeard) = true := by kernel_rfl
theorem linearSearch_k25 : (Try.prog.mayEnter) = true := by kernel_rfl
theorem linearSearch_k26 : ((Rows.linearSearchRow.lifted == Try.prog.liftsFinal)) = true := by kernel_rfl
theorem linearSearch_k27 : ((Try.prog.make == some Rows.linearSearchRow.make)) = true := by kernel_rfl
theorem linearSearch_k28 : ((Rows.linearSearchRow.kinds == (if Rows.linearSearchRow.domain.isEmpty then [] else Try.f3.params.toList.map fun t => match Try.prog.underlying t with | some (.int k) => some k | _ => none))) = true := by kernel_rfl
theorem linearSearch_k29 : ((Rows.linearSearchRow.pinned == Rows.linearSearchRow.pinnedBy)) = true := by kernel_rfl
theorem linearSearch_k30 : ((Rows.linearSearchRow.veiled == (Try.f3.params.toList ++ Rows.linearSearchSpec.plain.varTypes Try.prog ++ Try.f3.resultTypes.toList).any (Try.prog.veiledRec ·))) = true := by kernel_rfl
theorem linearSearch_k31 : (Rows.linearSearchRow.veiledFits Try.prog Try.f3.params.toList (Try.f3.params.toList ++ Rows.linearSearchSpec.plain.varTypes Try.prog ++ Try.f3.resultTypes.toList)) = true := by kernel_rfl
set_option maxRecDepth 100000 in
theorem linearSearch_closed : joinedFacts Try.prog 3 Try.f3 Rows.linearSearchSpec Rows.linearSearchRow = true := (andT (andT (andT (andT (andT (andT (andT (andT (andT (andT (andT (andT (andT (andT (andT (andT (andT (andT (andT (andT (andT (andT (andT (andT (andT (andT (andT (andT (andT (andT (andT linearSearch_k0 linearSearch_k1) linearSearch_k2) linearSearch_k3) linearSearch_k4) linearSearch_k5) linearSearch_k6) linearSearch_k7) linearSearch_k8) linearSearch_k9) linearSearch_k10) linearSearch_k11) linearSearch_k12) linearSearch_k13) linearSearch_k14) linearSearch_k15) linearSearch_k16) linearSearch_k17) linearSearch_k18) linearSearch_k19) linearSearch_k20) linearSearch_k21) linearSearch_k22) linearSearch_k23) linearSearch_k24) linearSearch_k25) linearSearch_k26) linearSearch_k27) linearSearch_k28) linearSearch_k29) linearSearch_k30) linearSearch_k31)
theorem linearSearch_named : Try.prog.funcNamed "roundelay/roundelaylaw28.LinearSearch" = some 3 := by kernel_rfl
theorem linearSearch_inst : Try.f3.isInstance Try.prog Rows.linearSearchRow.origin Rows.linearSearchRow.targs := of_decide_eq_true (by kernel_rfl)
theorem linearSearch_wrap : Try.f3.isWrapper Try.prog Rows.linearSearchRow.wrapper Rows.linearSearchRow.mainSum := by unfold Func.isWrapper; first | (rw [if_pos (by decide +kernel)]; kernel_rfl) | (rw [if_neg (by decide +kernel)]; exact ⟨rfl, rfl⟩)
end Go.Proofs.Ytpgonpjakllnjaa
end

/-
  LinearSearch: the row. The law 'LinearSearch' answers true for every input, without condition.
-/
section
namespace Go.Proofs.Ytpgonpjakllnjaa
open Go.ChangeShapes Go.WideShapes Go.ChangeAt Go.RowKit Go.Vm
set_option linter.unusedVariables false
namespace Ls

theorem own : ownKnob Try.prog.godebug = none := by kernel_rfl
theorem laidOut : laidOutB Try.prog = true := linearSearch_k1
theorem readable_of {f : Func} (h : f.params.toList.all (fun t => Try.prog.readableRec t && Nat.blt t Try.prog.types.size) = true) : ∀ t ∈ f.params.toList, Try.prog.readableRec t = true ∧ t < Try.prog.types.size := fun t ht => by
  have := List.all_eq_true.1 h t ht
  simp only [Bool.and_eq_true] at this
  exact ⟨this.1, Nat.le_of_ble_eq_true this.2⟩
theorem readable3 : ∀ t ∈ Try.f3.params.toList, Try.prog.readableRec t = true ∧ t < Try.prog.types.size := readable_of (by kernel_rfl)
theorem cells31 : Try.prog.cellsOf 31 = Lt.ksR.length := by kernel_rfl
theorem flat31 : flat Try.prog 5 31 = some Lt.ksR := by kernel_rfl
/-- Of which kind it is. -/
theorem kinds {W : World} {v : Value} (h : v = .slice none 0 0 ∨ ∃ b o len cap : Nat, v = .slice (some ⟨b, o, none⟩) len cap ∧ len ≤ 9223372036854775807 ∧ (0 < len → ∃ u, RowAt W b o Lt.ksR len u ∧ InRow Lt.ksR len u)) :
    ∃ k n b o c L, AV3 W k v n b o c L ∧ n < 9223372036854775808 := by
  rcases h with rfl | ⟨b, o, len, cap, rfl, hmx, hrow⟩
  · exact ⟨.nil, 0, 0, 0, 0, [], ⟨rfl, rfl, rfl⟩, by omega⟩
  · rcases Nat.eq_zero_or_pos len with rfl | hpos
    · exact ⟨.zero, 0, b, o, cap, [], ⟨rfl, rfl, rfl⟩, by omega⟩
    · obtain ⟨u, hu, _⟩ := hrow hpos
      obtain ⟨c, fr, el, xs, h1, _, h3, h4, h5⟩ := hu.row
      refine ⟨.row, len, b, o, cap, xs.map toZ, ⟨rfl, hpos, by rw [List.length_map]; exact h5.1, c, fr, el, h1, h3, ?_⟩, by omega⟩
      rw [← h5.rowOf]; exact h4
set_option maxRecDepth 100000 in
theorem lifted (os : Os) (started : os.Started) (H : Type) (enc : TypeId × Value → H) :
    ReturnsInHanded {} Try.checked os 3 .any (Rows.linearSearchSpec.pre6 enc Try.prog Try.f3 Rows.linearSearchRow.domain false) (Rows.linearSearchSpec.post enc Try.prog Try.f3 false true false false) := by
  refine returnsInHanded_of_change (C := Try.checked) own started (by kernel_rfl) Try.func3
    (ChangeSpec.witness6 (enc := enc) (C := Try.checked) false ⟨#[], #[.slice none 0 0], []⟩ 8 (by kernel_rfl) (by kernel_rfl) (by kernel_rfl) (by kernel_rfl)) ?_
  intro W base args ds gs before hval0 hW hcnd _
  have hval : ∀ (j : Nat) t v, Try.f3.params[j]? = some t → args[j]? = some v → Value.okWide Try.prog W .any base t v := hval0
  have hW' := hW
  obtain ⟨p, q, hA0, hV, rfl, hfz, hnd⟩ := hW
  have hA : DataW.TrodAll enc Try.prog W 0 (fun _ => true) true Try.f3.params.toList args.toList ds p := hA0
  rw [Try.params3] at hA hval
  obtain ⟨v0, vs0, d0, ds0, p0, q0, hargs, rfl, rfl, h0, r0⟩ := trodAll_cons hA
  obtain ⟨rfl, rfl, rfl⟩ := trodAll_nil r0
  obtain rfl : args = #[v0] := by cases args; simp_all
  obtain ⟨rfl, rfl⟩ := trodVars_none hV
  clear hA0 hval0
  simp only [List.append_nil] at hW'
  have walk : Calls Try.prog 3 #[v0] W fun e w' => e = .returned (.bool true) ∧ Framed W w' := by
    have k0 := hval 0 22 v0 rfl rfl
    obtain ⟨ka, n, b, o, c, L, g0, hn⟩ := kinds (open_rowsR Try.underlying22 cells31 (by decide) flat31 k0 h0)
    exact lawV g0 hn
  refine walk.mono fun e W' ⟨he, hg⟩ => ?_
  refine ⟨_, he, ?_⟩
  exact law_shut (tb := 4) laidOut (readable3) (by kernel_rfl) Try.underlying4 hW' rfl rfl rfl rfl (below_of_framed hg)
theorem over : Rows.linearSearchRow.holds Try.pinned (OpenSpec.ofChange Rows.linearSearchSpec) :=
  OpenClaim.holds_of_wide 3 Try.f3 rfl rfl rfl rfl rfl rfl rfl ⟨rfl, rfl, rfl, rfl, rfl⟩ rfl rfl rfl rfl rfl linearSearch_named Try.func3 linearSearch_closed linearSearch_inst linearSearch_wrap
    (fun os started H enc _ => lifted os started H enc)
end Ls
/-- The statement. -/
theorem provedLinearSearch : Rows.LinearSearchSaid :=
  Ls.over
end Go.Proofs.Ytpgonpjakllnjaa
end
