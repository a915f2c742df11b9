/-
  Reports (Dw2): slices.Concat of many slices of nothing; what is known of functions where the machine walks known worlds.
-/
import Derived.Test.YtgiomdniafpjnaaGreatDoorDw1
namespace Go.Proofs.YtgiomdniafpjnaaGreatDoor
open Go.Vm
namespace We

def retIs (u : AVal) : Leaf → Bool
  | .ret v _ _ _ => AVal.beq v u
  | .stop cs => dead cs
  | .pause _ => false
theorem calls_ret {w : World} {G : GP} {E : Exts} (hE : ExtOk Tryz.prog E) {sp : CallF} (hsp : CallOk Tryz.prog ⟨w, noO, G⟩ sp) {n : Nat} {f : FuncId} {fn : Func} {c : Code} {args : List AVal} {xs : List Value} {H : Heap} {nl : Nat} {cs : Cs} {ρ : Env} {u : AVal} {v : Value}
    (hf : Tryz.prog.funcs[f]? = some fn) (hb : fn.body = some c) (hrun : (run Tryz.prog E sp n false f (entry fn c args H nl cs)).map (·.all (retIs u)) = some true) (hx : AVal.denL ρ args = some xs) (hr : HRel ⟨w, noO, G⟩ ρ H nl w) (hcs : CRel ρ cs) (hu : ∀ ρ', ρ.Le ρ' → u.den ρ' = some v) :
    Calls Tryz.prog f xs.toArray w (fun e w' => e = .returned v ∧ Framed w w') := by
  obtain ⟨ls, hls, hall⟩ := Option.map_eq_some_iff.1 hrun
  refine (run_calls noCount hE hsp follows hf hb hls hx hr hcs (R := fun x w' => x = v ∧ Framed w w') (fun l hl => ?_)).mono fun e w' ⟨x, he, hv, hfr⟩ => ⟨by rw [he, hv], hfr⟩
  have h1 := List.all_eq_true.1 hall l hl
  cases l with
  | stop cs' => exact dead_ok h1
  | pause S => cases h1
  | ret v' H' nl' cs' =>
    intro ρ' w' x hle hxd hr' _
    obtain rfl := AVal.beq_eq _ _ h1
    rw [hu ρ' hle] at hxd
    exact ⟨(Option.some.inj hxd).symm, hr'.size, fun b hb => hr'.frame b hb id, hr'.tape, hr'.os, hr'.out⟩

def E40 : Exts := [(135, .mapsClone)]
noncomputable def hk40 : OpF := orH hkNextK (orH (hkCap Tryz.prog) (hkEqL 99 9))
theorem E40_ok : ExtOk Tryz.prog E40 := by
  intro g k h
  simp only [E40, Exts.get] at h
  cases hb : Nat.beq 135 g with
  | true =>
    obtain rfl := Nat.eq_of_beq_eq_true hb
    rw [hb] at h; cases h
    exact ⟨Tryz.f135, Tryz.func135, by kernel_rfl, by kernel_rfl, by kernel_rfl⟩
  | false => rw [hb] at h; cases h
theorem hk40_ok {β : Base} : HookOk Tryz.prog β hk40 := orH_ok hkNextK_ok (orH_ok hkCap_ok (hkEqL_ok Tryz.underlying99 (by kernel_rfl) (by kernel_rfl) (by kernel_rfl)))

/-- So many slices of nothing. -/
def nils : AVal → Bool
  | .sliceNil => true
  | _ => false
def H128 : List (Nat × ABlk) := [(0, .cells (List.replicate 256 .sliceNil) 117 none)]
noncomputable def spk : CallF := { fn := fun _ _ _ _ _ => none, op := hk40 }
theorem spk_ok {β : Base} : CallOk Tryz.prog β spk := ⟨(fun _ _ _ _ _ _ _ _ _ h => by cases h), hk40_ok⟩
theorem run128 : (run Tryz.prog E40 spk 40000 false 128 (entry Tryz.f128 (Tryz.f128.body.getD .ret) [.slice 0 (.lit 0) (.lit 255) (.lit 255)] (ofP (H128.map fun p => (p.1, (⟨p.2, false⟩ : HB)))) 1 [])).map (·.all (retIs .sliceNil)) = some true := by kernel_rfl
def spCat : SpG := fun args H nl cs => match args with
  | [.slice l (.lit (.ofNat 0)) (.lit (.ofNat 255)) (.lit (.ofNat 255))] => match H.get l with
    | some ⟨.cells vs e none, _⟩ => cond (Nat.beq e 117 && (Nat.beq vs.length 256 && vs.all nils)) (some [.ret .sliceNil H nl cs]) none
    | _ => none
  | _ => none
theorem nils_eq : ∀ {l : List AVal}, l.all nils = true → l = List.replicate l.length .sliceNil
  | [], _ => rfl
  | v :: r, h => by
    simp only [List.all_cons, Bool.and_eq_true] at h
    have h1 := h.1
    unfold nils at h1
    split at h1
    · rw [List.length_cons, List.replicate_succ, ← nils_eq h.2]
    · cases h1
theorem spCat_ok {β : Base} : SpGOk Tryz.prog β 128 spCat := by
  intro args H nl cs ls ρ w xs hr hx hh hc
  unfold spCat at hr
  split at hr
  rotate_left
  · cases hr
  rename_i l
  split at hr
  rotate_left
  · cases hr
  rename_i vs e rw hg
  cases hcd : (Nat.beq e 117 && (Nat.beq vs.length 256 && vs.all nils)) with
  | false => rw [hcd] at hr; cases hr
  | true =>
  rw [hcd] at hr
  simp only [cond_true, Option.some.injEq] at hr
  subst hr
  simp only [Bool.and_eq_true] at hcd
  obtain ⟨c1, c2, c3⟩ := hcd
  obtain rfl := Nat.eq_of_beq_eq_true c1
  have hvs : vs = List.replicate 256 .sliceNil := by rw [nils_eq c3, Nat.eq_of_beq_eq_true c2]
  obtain ⟨b, o, hb, ho, hrel⟩ := hh.blk _ _ hg
  have hargs : xs = [.slice (some ⟨b, 0, none⟩) 255 255] := by
    simp only [AVal.denL, AVal.den, hb, IT.den, natOf, Option.some.injEq] at hx
    exact hx.symm
  subst hargs
  obtain ⟨E0, hE⟩ : ∃ E0 : Env, E0 = ⟨fun _ => 0, fun _ => false, fun _ => default, fun _ => undef, fun i => if i = 0 then some b else none, fun _ _ _ => 0, fun _ => none⟩ := ⟨_, rfl⟩
  have hN : E0.N 0 = some b := by rw [hE]; rfl
  have hro := HRel.ro (w := w) (ρ := E0) (G := fun _ _ _ _ _ => True) (nl := 1) H128 (fun p hp => by
    obtain rfl := List.mem_singleton.1 hp
    refine ⟨b, o, hN, ho, ?_⟩
    obtain ⟨ys, c, fr, ho', hys, hpre, htl, _⟩ := hrel
    rw [hvs] at hys htl
    have hden : AVal.denL E0 (List.replicate 256 AVal.sliceNil) = AVal.denL ρ (List.replicate 256 AVal.sliceNil) := by kernel_rfl
    exact ⟨ys, c, fr, ho', hden.trans hys, hpre, htl, fun h => by cases h⟩) (fun i hi => by rw [hE]; simp; omega) trivial rfl (fun i => by rw [hE])
  refine spV_ok (calls_ret E40_ok spk_ok Tryz.func128 rfl run128 (xs := [.slice (some ⟨b, 0, none⟩) 255 255]) ?_ hro (fun _ h => by cases h) (fun _ _ => rfl)) rfl hh hc
  simp only [AVal.denL, AVal.den, hN, IT.den, natOf]
noncomputable def sp40 : CallF := spLH [(131, spSrt), (128, spCat)] hk40
theorem sp40_ok {β : Base} : CallOk Tryz.prog β sp40 := spLH_ok (fun p hp => by
  rcases List.mem_cons.1 hp with rfl | hp
  · exact spSrt_ok
  · rw [List.mem_singleton.1 hp]
    exact spCat_ok) hk40_ok
end We
end Go.Proofs.YtgiomdniafpjnaaGreatDoor
