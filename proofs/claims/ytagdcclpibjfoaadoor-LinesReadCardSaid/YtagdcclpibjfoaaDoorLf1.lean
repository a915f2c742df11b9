/-
  Lines: law 32's first.
-/
import Derived.Test.YtagdcclpibjfoaaDoorLi3
import Derived.Test.YtagdcclpibjfoaaDoorOt8
namespace Go.Proofs.YtagdcclpibjfoaaDoor
open Go.Vm Txt
namespace Ln

-- FIRST
def tabN : List (Int × List UInt8) := [(0, [48]), (1, [49]), (2, [50]), (3, [51]), (4, [52]), (7, [55]), (25, [50, 53]), (1000, [49, 48, 48, 48])]
def tabA : List (List AVal × AVal) := tabN.map fun p => ([.str (.lit p.2)], .tuple [.int .i64 (.lit p.1), .nilIface])
def tabI : List (List AVal × AVal) := tabN.map fun p => ([.int .i64 (.lit p.1)], .str (.lit p.2))
def spNil : SpG := fun args H nl cs => match args with
  | [.str (.lit [])] => some [.ret (.tuple [.int .i64 (.lit 0), .iface 180 (.ptr nl (.lit 0))]) H (nl + 1) cs]
  | _ => none
theorem tab_itoa : ∀ p ∈ tabN, Lib.itoa p.1 = p.2 := by decide +kernel
theorem tab_atoi : ∀ p ∈ tabN, atoiV p.2 = (p.1, true) := by decide
theorem nil_atoi : atoiV [] = (0, false) := by decide
theorem tab_small : ∀ p ∈ tabN, 0 ≤ p.1 ∧ p.1 ≤ 1000 ∧ p.2.length ≤ 4 := by decide
theorem spTabA_ok {β : Base} (hown : β.own = []) (hE : ErrW β.w0) : SpGOk Tryd.prog β 122 (orE (spKs tabA) spNil) := by
  refine orE_ok (fun args H nl cs ls ρ w xs hr hx hh hc => ?_) (fun args H nl cs ls ρ w xs hr hx hh hc => ?_)
  · unfold spKs at hr
    split at hr
    rotate_left
    · cases hr
    rename_i p hp
    cases hr
    have hb := List.find?_some hp
    have hm := List.mem_of_find?_eq_some hp
    obtain ⟨q, hq, rfl⟩ := List.mem_map.1 hm
    have ha := AVal.beqL_eq _ _ hb
    subst ha
    have hx' : xs = [.string ⟨q.2.toArray⟩] := (Option.some.inj hx).symm
    subst hx'
    obtain ⟨_, _, h4⟩ := tab_small q hq
    have e := tab_atoi q hq
    have hd : (ByteArray.mk q.2.toArray).data.toList = q.2 := by simp
    refine (atoi122a w (hE.of hown hh) ⟨q.2.toArray⟩ (by show q.2.toArray.size ≤ _; simp; omega)).mono fun e' w' h => ?_
    rw [hd, e] at h
    rcases h with ⟨_, he, hf⟩ | ⟨h1, _⟩
    · exact ⟨_, he, _, _, _, _, ρ, List.mem_cons_self, Env.Le.refl ρ, rfl, hh.framed hf, hc⟩
    · cases h1
  · unfold spNil at hr
    split at hr
    rotate_left
    · cases hr
    cases hr
    have hx' : xs = [.string ⟨([] : List UInt8).toArray⟩] := (Option.some.inj hx).symm
    subst hx'
    refine (atoi122a w (hE.of hown hh) ⟨([] : List UInt8).toArray⟩ (by show ([] : List UInt8).toArray.size ≤ _; simp)).mono fun e' w' h => ?_
    have hd : (ByteArray.mk ([] : List UInt8).toArray).data.toList = [] := rfl
    rw [hd, nil_atoi] at h
    rcases h with ⟨h1, _⟩ | ⟨_, N, he, hf⟩
    · cases h1
    · have hN := (hh.framed hf).num N
      have hle := Env.le_put (b := N) (hh.fresh nl (Nat.le_refl _))
      refine ⟨_, he, _, _, _, _, ρ.put nl N, List.mem_cons_self, hle, ?_, hN, hc.mono hle⟩
      have e0 : natOf (some (0 : Int)) = some 0 := rfl
      have eI : (IT.lit 0).den (ρ.put nl N) = some 0 := rfl
      simp only [AVal.den, AVal.denL, eI, Env.put_same, e0, Option.map_some]
theorem spTabI_ok {β : Base} (hown : β.own = []) (hT : TabW β.w0) : SpGOk Tryd.prog β 74 (spKs tabI) := by
  refine spKs_ok fun p hp ρ H nl w h => ?_
  obtain ⟨q, hq, rfl⟩ := List.mem_map.1 hp
  obtain ⟨h1, h2, _⟩ := tab_small q hq
  have e := tab_itoa q hq
  refine ⟨[.int .i64 q.1], .string ⟨q.2.toArray⟩, rfl, rfl, ?_⟩
  rw [← e]
  exact itoa74 (TabW.of hT hown h) q.1 (by omega) (by omega)
def sp62 : CallF := spL [(122, orE (spKs tabA) spNil), (74, spKs tabI)]
theorem run62 : (run Tryd.prog exts05 sp62 100000 false 62 (entry Tryd.f62 (Tryd.f62.body.getD .ret) [] .leaf 0 [])).map (·.all (leafB (.lit true))) = some true := by kernel_rfl
theorem first62 (w : World) (hT : TabW w) (hE : ErrW w) : Calls Tryd.prog 62 #[] w (fun e w' => e = .returned (.bool true) ∧ Framed w w') := by
  refine calls_true (β := .plain w) (ρ := envOf [] [] F0) exts05_ok (spL_ok fun p hp => ?_) rfl Tryd.func62 rfl run62 (xs := []) rfl (HRel.start w _ fun _ => rfl) (fun _ h => by cases h)
  simp only [List.mem_cons, List.not_mem_nil, or_false] at hp
  rcases hp with rfl | rfl
  · exact spTabA_ok rfl hE
  · exact spTabI_ok rfl hT
end Ln
end Go.Proofs.YtagdcclpibjfoaaDoor
