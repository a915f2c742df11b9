/-
  Trace lines (Tf3): 'first' of law 39 answers true.
-/
import Derived.Test.YtjjijagclgambaaGreatDoorTf2
namespace Go.Proofs.YtjjijagclgambaaGreatDoor
open Go.Vm Go.TraceP
namespace Txt

/-- A known text, turned. -/
def spJnL : SpG := fun args H nl cs => match args with
  | [.str (.lit l)] => cond (Nat.ble l.length 1000) (some [.ret (.str (.lit (turn 32 95 l))) H nl cs]) none
  | _ => none
theorem spJnL_ok {w0 : World} (hM : MaxW w0) {G : GP} : SpGOk Tryz.prog ⟨w0, [], G⟩ 15 spJnL := by
  intro args H nl cs ls ρ w xs hr hx hh hc
  unfold spJnL at hr
  split at hr
  rotate_left
  · cases hr
  rename_i l
  cases hb : Nat.ble l.length 1000 with
  | false => rw [hb] at hr; cases hr
  | true =>
    rw [hb] at hr
    simp only [cond_true, Option.some.injEq] at hr
    subst hr
    obtain rfl : [.string (bytes l)] = xs := Option.some.inj hx
    exact spV_ok (joined15 (hM.of rfl hh) l (Nat.le_of_ble_eq_true hb)) rfl hh hc
def sp39f : FuncId → List AVal → Heap → Nat → Cs → Option (List Leaf) := fun g args H nl cs => match (spL [(15, spJnL)]).fn g args H nl cs with
  | some ls => some ls
  | none => spCf Clos.clos g args H nl cs
def sp39 : CallF := { fn := sp39f, op := hk39 }
def G39 : GP := fun _ _ _ _ _ => True
theorem sp39_ok {w0 : World} (hM : MaxW w0) : CallOk Tryz.prog ⟨w0, [], G39⟩ sp39 := by
  refine ⟨?_, hk39_ok⟩
  intro g args H nl cs ls ρ w xs h hx hr hc hd
  simp only [sp39, sp39f] at h
  split at h
  · rename_i l hl
    cases h
    have hsp : CallOk Tryz.prog ⟨w0, [], G39⟩ (spL [(15, spJnL)]) := spL_ok fun p hp => by
      rw [List.mem_singleton.1 hp]
      exact spJnL_ok hM
    exact hsp.1 g args H nl cs _ ρ w xs hl hx hr hc hd
  · exact spCf_ok (fun x hx => clos_ok x hx) g args H nl cs ls ρ w xs h hx hr hc hd
theorem run4 : (run Tryz.prog E39 sp39 40000 false 4 (entry Tryz.f4 (Tryz.f4.body.getD .ret) [] .leaf 0 [])).map (·.all (retIs (.bool (.lit true)))) = some true := by kernel_rfl
theorem first4 {w : World} (hM : MaxW w) : Calls Tryz.prog 4 #[] w (fun e w' => e = .returned (.bool true) ∧ Framed w w') :=
  calls_ret (β := ⟨w, [], G39⟩) (ρ := envU 0) E39_ok (sp39_ok hM) rfl Tryz.func4 rfl run4 (xs := []) rfl (HRel.startG w _ (fun _ => rfl) trivial) c0 fun _ _ => rfl
end Txt
end Go.Proofs.YtjjijagclgambaaGreatDoor
