/-
  LinearModel: maps.Equal of two maps of the same entries, by the kit's shelf.
-/
import Derived.Test.YtpgonpjakllnjaaMd2
import Derived.Shelf.SlMaps.Equal
namespace Go.Proofs.Ytpgonpjakllnjaa
open Go.Vm Go.Vm.Md Go.Shelf Go.Maps Go.RowKit
namespace Lm

def eqRen : Go.Shelf.Ren := ⟨fun | 6 => 36 | n => n, fun | 23 => 63 | 24 => 63 | 26 => 3 | 27 => 3 | 36 => 89 | n => n, fun n => n⟩
theorem eqM : Go.Proofs.SlLaysEq.n6 Try.prog eqRen := {
  mixed := by kernel_rfl
  f6 := ⟨Try.f36.name, by kernel_rfl, Try.func36.trans (congrArg some (by kernel_rfl))⟩
  t0 := Try.underlying0
  a0 := Try.isAgg0
  z0 := Try.sizeOf0
  v0 := Try.zeroValue0
  t3 := Try.underlying3
  a3 := Try.isAgg3
  z3 := Try.sizeOf3
  v3 := Try.zeroValue3
  t4 := Try.underlying4
  a4 := Try.isAgg4
  z4 := Try.sizeOf4
  v4 := Try.zeroValue4
  t23 := Try.underlying63
  a23 := Try.isAgg63
  z23 := Try.sizeOf63
  v23 := Try.zeroValue63
  t24 := Try.underlying63
  a24 := Try.isAgg63
  z24 := Try.sizeOf63
  v24 := Try.zeroValue63
  a26 := Try.isAgg3
  z26 := Try.sizeOf3
  a27 := Try.isAgg3
  z27 := Try.sizeOf3
  t36 := Try.underlying89
  a36 := Try.isAgg89
  z36 := Try.sizeOf89 }
def sameI : DataW Unit → DataW Unit → Bool
  | .lit (.int _ x), .lit (.int _ y) => x == y
  | _, _ => true
theorem sameI_self (d : DataW Unit) : sameI d d = true := by
  cases d with
  | lit l => cases l <;> simp [sameI]
  | _ => rfl
theorem wf_of {v : Int} (h : Ran v) : (Lit.int .i64 v).wf = true := by
  have := Go.RowKit.wrap64_wf v
  unfold wrap64 at this
  unfold Ran at h
  rwa [show (v + 9223372036854775808) % 18446744073709551616 - 9223372036854775808 = v by omega] at this
noncomputable def rgP (p : Value × Value) : Lit × DataW Unit := Go.WideElems.rg Try.prog 3 (plainElem (H := Unit) Try.prog 3) ⟨p.1, p.2, 0⟩
theorem rgP_eq (e : MapEntry) : Go.WideElems.rg Try.prog 3 (plainElem (H := Unit) Try.prog 3) e = rgP (e.key, e.val) := by
  unfold rgP Go.WideElems.rg Go.WideElems.rd
  rfl
theorem owns_of {w : World} {b cl : Nat} {es : Array MapEntry} {M : List Int} (h : w.heap[b]? = some (.map es cl)) (he : es.toList.map (fun e => (e.key, e.val)) = entM M) (hb : BornM es cl) (ok : MapOk M) :
    w.ownsMap Try.prog 3 (plainElem (H := Unit) Try.prog 3) b es.size (.map (((entM M).map rgP).foldr DataW.insert [])) := by
  have hlen : es.size = (keysM M).length := by
    have e1 := congrArg (fun l => (l.map Prod.fst).length) he
    simp only [entM_keys, List.length_map, Array.length_toList] at e1
    exact e1
  have hfew := few 256 (keysM M) ok.1 fun k hk => by have := ok.2.1 k hk; omega
  refine ⟨es, cl, h, ⟨by unfold maxLen; omega, ⟨hb.1, hb.2, ?_⟩, fun x hx => ?_⟩, Nat.le_refl _, ?_⟩
  · have e1 : es.toList.map (·.key) = (keysM M).map (Value.int .i64) := by
      have := congrArg (List.map Prod.fst) he
      rw [entM_keys, List.map_map] at this
      exact this
    rw [e1]
    exact List.Pairwise.map _ (fun a b h e => h (by injection e)) ok.1
  · have hm : (x.key, x.val) ∈ entM M := by rw [← he]; exact List.mem_map.2 ⟨x, hx, rfl⟩
    obtain ⟨k, v, h1, h2, h3⟩ := entM_mem M hm
    obtain ⟨hk, hv⟩ := Prod.mk.inj h1
    refine ⟨(.int .i64 k, .lit (.int .i64 v)), ?_⟩
    unfold Go.WideElems.rd
    rw [hk, hv, keyOf_int_mk Try.underlying3 (wf_of (ok.2.2 k h2)), plainElem_int Try.underlying3 (wf_of (ok.2.2 v h3))]
    rfl
  · have hm : es.toList.map (Go.WideElems.rg Try.prog 3 (plainElem (H := Unit) Try.prog 3)) = (entM M).map rgP := by
      rw [← he, List.map_map]
      apply List.map_congr_left
      intro e _
      rw [rgP_eq e, Function.comp_apply]
    rw [hm]
theorem equal36 {w : World} {b1 b2 c1 c2 : Nat} {e1 e2 : Array MapEntry} {M : List Int} (h1 : w.heap[b1]? = some (.map e1 c1)) (k1 : e1.toList.map (fun e => (e.key, e.val)) = entM M) (n1 : BornM e1 c1) (h2 : w.heap[b2]? = some (.map e2 c2)) (k2 : e2.toList.map (fun e => (e.key, e.val)) = entM M) (n2 : BornM e2 c2) (ok : MapOk M) :
    Calls Try.prog 36 #[.map (some b1), .map (some b2)] w fun e w' => e = .returned (.bool true) ∧ Framed w w' := by
  have o1 := owns_of h1 k1 n1 ok
  have o2 := owns_of h2 k2 n2 ok
  have K : Keyed Try.prog 3 := int_keyed Try.underlying3
  obtain ⟨es, hes, hap, hkeys⟩ := o1.entries K
  have hneq : ∀ (W : World) (x y : Value) (xd yd : DataW Unit) (xp yp : List MemPlace), plainElem Try.prog 3 x = some (xd, xp) → plainElem Try.prog 3 y = some (yd, yp) → (binOp .neq 3 x y).run Try.prog W = .ok (.bool (!sameI xd yd)) W ∧ ∀ (a b : Operand), (eqGuard .neq 3 a b x y).run Try.prog W = .ok () W := fun W x y xd yd xp yp hx hy => by
    obtain ⟨a, rfl, h1, _⟩ := plainElem_int_inv Try.underlying3 hx
    obtain ⟨b, rfl, h2, _⟩ := plainElem_int_inv Try.underlying3 hy
    obtain rfl : xd = .lit (.int .i64 a) := by simpa using (congrArg Prod.fst h1)
    obtain rfl : yd = .lit (.int .i64 b) := by simpa using (congrArg Prod.fst h2)
    refine ⟨?_, fun _ _ => by rw [eqGuard_at_int]; rfl⟩
    simp [go_sem, sameI, binOp]
    rfl
  have hcon := AnyEq.maps_Equal (ρ := eqRen) eqM K (plainElem (H := Unit) Try.prog 3) (plainElem (H := Unit) Try.prog 3) sameI b1 b2 _ _ _ _ w o1 o2 (.int .i64 0) Try.zeroValue3 (.lit (.int .i64 0)) [] (plainElem_int Try.underlying3 (by decide)) hneq
  refine Calls.mono hcon fun e w' ⟨he, hg⟩ => ⟨?_, hg.size, fun y hy => hg.block y hy (by simp), hg.tape, hg.os, hg.output⟩
  rw [he]
  have : Lib.equalFuncD sameI (.map es) (.map es) = true := by
    unfold Lib.equalFuncD
    rw [Bool.and_eq_true]
    refine ⟨by simp, List.all_eq_true.2 fun p hp => ?_⟩
    unfold Lib.goodD
    rw [Bool.and_eq_true]
    refine ⟨List.any_eq_true.2 ⟨p, hp, WideAt.sameKey_self (hkeys p hp)⟩, ?_⟩
    rw [WideAt.atKey_mem .nil (hkeys p hp) hap hp]
    exact sameI_self _
  rw [hes, this]
end Lm
end Go.Proofs.Ytpgonpjakllnjaa
