/-
  LinearSearch (23): Search, Wrong and Any, as the law calls them.
-/
import Derived.Test.YtpgonpjakllnjaaLs22
section
namespace Go.Proofs.Ytpgonpjakllnjaa
open Go.Vm Go.Vm.Md Lm Lt
namespace Ls

section
variable {x : Int} {n : Nat} {O : List Int} {w : World} {v0 vo : Value} {b0 o0 c0 : Nat}
theorem wr8V (hn60 : n ≤ 60) (hl : O.length ≤ 60) (av0 : AVr w ksR v0 n b0 o0 c0 (decL x)) (hvo : vo = .slice none 0 0 ∧ O = [] ∨ ∃ b1 o1 q, O.length ≤ q ∧ AVr w [.i64] vo O.length b1 o1 q O) : Calls Try.prog 8 #[v0, vo] w fun e w' => e = .returned (.int .i64 (wrP x n O)) ∧ Framed w w' := by
  obtain ⟨rfl, hn1, hlx, cc0, fr0, el0, hob0, hle0, hp0⟩ := av0
  have fin : ∀ {z : Kd} {q : Nat} {ρ : Env} {g : Int → Int → Int} {xs : List Value}, DOk (dZ z x n O q) → HRel ⟨w, [], Ga (dZ z x n O q) g⟩ ρ (ofP (Lt.roH (EE .row z))) 100 w → AVal.denL ρ [SL .row, SO z] = some xs → Calls Try.prog 8 xs.toArray w fun e w' => e = .returned (.int .i64 (wrP x n O)) ∧ Framed w w' := fun {z q ρ g xs} ok hr hx => by
    have h := wrong8 (d := dZ z x n O q) ok ((hr.mapG hr.g.1).raise (by omega)) hx
    have e : (dZ z x n O q).wrong = wrP x n O := wrong_q
    rw [e] at h; exact h
  rcases hvo with ⟨rfl, rfl⟩ | ⟨b1, o1, q, hq, rfl, hm1, hly, cc1, fr1, el1, hob1, hle1, hp1⟩
  · obtain ⟨N, hN⟩ : ∃ N : Nat → Option Nat, N = fun i => if i = 0 then some b0 else none := ⟨_, rfl⟩
    have N0 : N 0 = some b0 := by rw [hN]; rfl
    have Nn : ∀ i, 1 ≤ i → N i = none := fun i hi => by rw [hN]; show (if i = 0 then some b0 else none) = none; rw [if_neg (by omega)]
    clear hN
    have hG := envA_G (dZ .nil x n [] 0) (g90 x n 0 []) o0 c0 0 N
    obtain ⟨ρ, hρ⟩ : ∃ ρ, ρ = envA (dZ .nil x n [] 0) (g90 x n 0 []) o0 c0 0 N := ⟨_, rfl⟩
    rw [← hρ] at hG
    have rN : ρ.N = N := by rw [hρ]; rfl
    have i62 : ρ.I 62 = (o0 : Int) := by rw [hρ]; rfl
    have i63 : ρ.I 63 = (c0 : Int) := by rw [hρ]; rfl
    have hr : HRel ⟨w, [], Ga (dZ .nil x n [] 0) (g90 x n 0 [])⟩ ρ (ofP (Lt.roH (EE .row .nil))) 100 w := by
      refine HRel.ro (EE .row .nil) (fun p hp => ?_) (fun i hi => by rw [rN]; exact Nn i (by omega)) hG (nb_EE _ _)
      have hp' : p ∈ [((0 : Nat), bL)] := hp
      obtain rfl := List.mem_singleton.1 hp'
      exact ⟨b0, _, by rw [rN]; exact N0, hob0, rowOf ksR (decL x), cc0, fr0, el0, n, o0, rfl, (fun h => by cases h), by simp only [AT.den, pX hG.1, Option.map_some]; rfl, varD i62, ⟨hle0, hp0⟩, pN hG.1, rowOf_typed hlx, trivial, fun h => by cases h⟩
    have hx : AVal.denL ρ [SL .row, SO .nil] = some [.slice (some ⟨b0, o0, none⟩) n c0, .slice none 0 0] := denL2 (den_slice_of (by rw [rN]; exact N0) (varD i62) (pN hG.1) (varD i63)) rfl
    exact fin (dZ_ok (by simp) (fun _ => rfl) (fun h => by cases h) hn1 hn60 hlx (by simp) (Nat.zero_le _)) hr hx
  · have hO : O ≠ [] := List.length_pos_iff.1 hm1
    obtain ⟨N, hN⟩ : ∃ N : Nat → Option Nat, N = fun i => if i = 0 then some b0 else if i = 1 then some b1 else none := ⟨_, rfl⟩
    have N0 : N 0 = some b0 := by rw [hN]; rfl
    have N1 : N 1 = some b1 := by rw [hN]; rfl
    have Nn : ∀ i, 2 ≤ i → N i = none := fun i hi => by rw [hN]; show (if i = 0 then some b0 else if i = 1 then some b1 else none) = none; rw [if_neg (by omega), if_neg (by omega)]
    clear hN
    have hG := envA_G (dZ .row x n O q) (g90 x n 0 O) o0 c0 o1 N
    obtain ⟨ρ, hρ⟩ : ∃ ρ, ρ = envA (dZ .row x n O q) (g90 x n 0 O) o0 c0 o1 N := ⟨_, rfl⟩
    rw [← hρ] at hG
    have rN : ρ.N = N := by rw [hρ]; rfl
    have i62 : ρ.I 62 = (o0 : Int) := by rw [hρ]; rfl
    have i63 : ρ.I 63 = (c0 : Int) := by rw [hρ]; rfl
    have i64 : ρ.I 64 = (o1 : Int) := by rw [hρ]; rfl
    have hr : HRel ⟨w, [], Ga (dZ .row x n O q) (g90 x n 0 O)⟩ ρ (ofP (Lt.roH (EE .row .row))) 100 w := by
      refine HRel.ro (EE .row .row) (fun p hp => ?_) (fun i hi => by rw [rN]; exact Nn i (by omega)) hG (nb_EE _ _)
      rcases mem_EE hp with rfl | rfl
      · exact ⟨b0, _, by rw [rN]; exact N0, hob0, rowOf ksR (decL x), cc0, fr0, el0, n, o0, rfl, (fun h => by cases h), by simp only [AT.den, pX hG.1, Option.map_some]; rfl, varD i62, ⟨hle0, hp0⟩, pN hG.1, rowOf_typed hlx, trivial, fun h => by cases h⟩
      · refine ⟨b1, _, by rw [rN]; exact N1, hob1, rowOf [.i64] O, cc1, fr1, el1, O.length, o1, rfl, (fun h => by cases h), ?_, varD i64, ⟨hle1, hp1⟩, pM hG.1, rowOf_typed (by simp), trivial, fun h => by cases h⟩
        have e37 : (IT.var 37).den ρ = some (encL O) := pY hG.1
        simp only [AT.den, e37, Option.map_some, decL_encL]
    have hx : AVal.denL ρ [SL .row, SO .row] = some [.slice (some ⟨b0, o0, none⟩) n c0, .slice (some ⟨b1, o1, none⟩) O.length q] := denL2 (den_slice_of (by rw [rN]; exact N0) (varD i62) (pN hG.1) (varD i63)) (den_slice_of (by rw [rN]; exact N1) (varD i64) (pM hG.1) (pQ hG.1))
    exact fin (dZ_ok (by simp) (fun h => absurd rfl h) (fun _ => hO) hn1 hn60 hlx hl hq) hr hx
end
/-- What Search hands out: nothing; the empty order; a row. -/
inductive Sk where
  | no
  | nil
  | row
def Sk.of (d : Dt) : Sk := match SPd d with
  | none => .no
  | some [] => .nil
  | some (_ :: _) => .row
def spSr (k : Kd) (s : Sk) : SpG := fun args H nl cs => cond (AVal.beqL args [SL k] && (hasE (EL k) H && Nat.ble nl 100)) (some [match s with
  | .no => .ret (.tuple [.sliceNil, .bool (.lit false)]) H nl cs
  | .nil => .ret (.tuple [.sliceNil, .bool (.lit true)]) H nl cs
  | .row => .ret (.tuple [.slice (nl + 1) (.lit 0) (.var 76) (.nv nl), .bool (.lit true)]) (H.set (nl + 1) (orB nl (.var 75) (.var 76))) (nl + 2) cs]) none
def spW8 (s : Sk) : SpG := fun args H nl cs => match s, args with
  | .nil, [a, .sliceNil] => cond (AVal.beq a (SL .row) && hasE (EL .row) H) (some [.ret (.int .i64 (.lit 0)) H nl cs]) none
  | .row, [a, .slice l (.lit (.ofNat 0)) m (.nv c)] => match H.get l with
    | some k => cond (AVal.beq a (SL .row) && (hasE (EL .row) H && (IT.beq m (.var 76) && ABlk.beq k.k (orB c (.var 75) (.var 76)).k))) (some [.ret (.int .i64 (.lit 0)) H nl cs]) none
    | none => none
  | _, _ => none
def spAL (s : Sk) : SpG := fun args H nl cs => match args with
  | [a, .sliceNil] => cond (AVal.beq a (SL .row) && hasE (EL .row) H) (some [.ret (.bool (.lit (match s with | .no => false | _ => true))) H nl cs]) none
  | _ => none
section
variable {d : Dt} {w0 : World}
theorem avL (ok : DOk d) (hl : d.kl = .row) {β : Base} {ρ : Env} {H : Heap} {nl : Nat} {w : World} (hh : HRel β ρ H nl w) (hg : (Gd d).at ρ) (hE : hasE (EL .row) H = true) {v0 : Value} (hv : (SL .row).den ρ = some v0) : ∃ b0 o0 c0, AVr w ksR v0 d.n b0 o0 c0 (decL d.x) := by
  have q := List.all_eq_true.1 hE (0, bL) (List.mem_singleton.2 rfl)
  obtain ⟨r0, hg0⟩ : ∃ r, H.get 0 = some ⟨bL, r⟩ := by
    split at q
    · rename_i k hk
      obtain ⟨kk, rr⟩ := k
      have hkk : kk = bL := ABlk.beq_eq q
      subst hkk
      exact ⟨rr, hk⟩
    · cases q
  obtain ⟨b0, ob0, hN0, hob0, hr0⟩ := hh.blk _ _ hg0
  have hn1 : 1 ≤ d.n := by have := ok.kl; rw [hl] at this; exact this
  obtain ⟨o0, c0, av0, _⟩ := avr_of (l := 0) (on := 62) (nn := 36) (cn := 63) hv hN0 hob0 hr0 (Option.some.inj (pX hg)) (Option.some.inj (pN hg)) hn1 ok.lx
  exact ⟨b0, o0, c0, av0⟩
theorem row_sres (h8 : ¬ 8 < (ivs d).length) {R : List Int} (h : SPd d = some R) (hR : R ≠ []) : sRes d = some R := by
  unfold SPd at h
  rw [if_neg h8] at h
  split at h
  · cases h; exact absurd rfl hR
  · exact h
theorem h8_of {R : List Int} (h : SPd d = some R) : ¬ 8 < (ivs d).length := fun h8 => by
  unfold SPd at h
  rw [if_pos h8] at h; cases h
theorem orB_out {ρ : Env} {o : Obj} {c : Nat} {x n : IT} {L : List Int} {rw0 : Bool} (h : (orB c x n).k.rel ρ rw0 o) (hx : x.den ρ = some (encL L)) : ∃ cc fr el cap, o = .cells cc el fr ∧ L.map (Value.int .i64) <+: cc.toList ∧ cc.size = cap ∧ (IT.nv c).den ρ = some (cap : Int) := by
  obtain ⟨ys, cc, fr, el, m, b0, rfl, _, hd, hoff, ⟨_, hp⟩, _, _, ⟨cap, hcap, hroom⟩, _⟩ := h
  obtain rfl : b0 = 0 := by have := Option.some.inj hoff; exact (Int.ofNat.inj this).symm
  have e : (AT.code [.i64] x).den ρ = some (rowOf [.i64] L) := by simp only [AT.den, hx, Option.map_some, decL_encL]
  obtain rfl : ys = _ := Option.some.inj (hd.symm.trans e)
  rw [List.drop_zero, rowOf1] at hp
  exact ⟨cc, fr, el, cap, rfl, hp, by have : cc.size - 0 = cap * 1 := hroom; omega, hcap⟩
theorem spSr_ok (ok : DOk d) : SpGOk Try.prog ⟨w0, [], Gx d⟩ 7 (spSr d.kl (Sk.of d)) := by
  intro args H nl cs ls ρ w xs hr hx hh hc
  have hg : (Gx d).at ρ := hh.g
  unfold spSr at hr
  cases hb : (AVal.beqL args [SL d.kl] && (hasE (EL d.kl) H && Nat.ble nl 100)) with
  | false => rw [hb] at hr; cases hr
  | true =>
    rw [hb] at hr; simp only [cond_true, Option.some.injEq] at hr
    subst hr
    simp only [Bool.and_eq_true] at hb
    obtain ⟨h1, h2, h3⟩ := hb
    obtain rfl := AVal.beqL_eq _ _ h1
    refine (search7 ok (ofE hh h2 (Nat.le_of_ble_eq_true h3) (nb_EL _)) hx).mono fun e w' ⟨v, he, hf, hno, hyes⟩ => ?_
    have hh' := hh.framed hf
    cases hs : SPd d with
    | none =>
      have hk : Sk.of d = .no := by unfold Sk.of; rw [hs]
      rw [hk]
      exact ⟨v, he, _, _, _, _, ρ, List.mem_cons_self, Env.Le.refl ρ, by rw [hno hs]; rfl, hh', hc⟩
    | some R =>
      obtain ⟨vo, hv, hR⟩ := hyes R hs
      rcases hR with ⟨rfl, rfl⟩ | ⟨hne, ro⟩
      · have hk : Sk.of d = .nil := by unfold Sk.of; rw [hs]
        rw [hk]
        exact ⟨v, he, _, _, _, _, ρ, List.mem_cons_self, Env.Le.refl ρ, by rw [hv]; rfl, hh', hc⟩
      · have hk : Sk.of d = .row := by
          unfold Sk.of; rw [hs]
          cases R with
          | nil => exact absurd rfl hne
          | cons a r => rfl
        rw [hk]
        have hsr := row_sres (h8_of hs) hs hne
        have e75 : (IT.var 75).den ρ = some (encL R) := by
          have : (IT.var 75).den ρ = some (encL ((sRes d).getD [])) := pinX hg (by simp [pinsX])
          rw [hsr] at this; exact this
        have e76 : (IT.var 76).den ρ = some (R.length : Int) := by
          have : (IT.var 76).den ρ = some (((sRes d).getD []).length : Int) := pinX hg (by simp [pinsX])
          rw [hsr] at this; exact this
        obtain ⟨ρ', hle, hd, hr'⟩ := row_in hh ro e76 e75
        refine ⟨v, he, _, _, _, _, ρ', List.mem_cons_self, hle, ?_, hr', hc.mono hle⟩
        rw [hv]
        have h1 : AVal.denL ρ' [.slice (nl + 1) (.lit 0) (.var 76) (.nv nl), .bool (.lit true)] = some [vo, .bool true] := denL2 hd rfl
        show (AVal.denL ρ' [.slice (nl + 1) (.lit 0) (.var 76) (.nv nl), .bool (.lit true)]).map (fun l => Value.tuple l.toArray) = _
        rw [h1]; rfl
theorem spW8_ok (ok : DOk d) (hl : d.kl = .row) : SpGOk Try.prog ⟨w0, [], Gx d⟩ 8 (spW8 (Sk.of d)) := by
  intro args H nl cs ls ρ w xs hr hx hh hc
  have hg : (Gx d).at ρ := hh.g
  cases hs : SPd d with
  | none =>
    have hk : Sk.of d = .no := by unfold Sk.of; rw [hs]
    rw [hk] at hr; cases hr
  | some R =>
    have h8 := h8_of hs
    have hw0 := SPd_good h8 hs
    cases R with
    | nil =>
      have hk : Sk.of d = .nil := by unfold Sk.of; rw [hs]
      rw [hk] at hr
      unfold spW8 at hr
      split at hr
      · rename_i a _ 
        cases hb : (AVal.beq a (SL .row) && hasE (EL .row) H) with
        | false => rw [hb] at hr; cases hr
        | true =>
          rw [hb] at hr; simp only [cond_true, Option.some.injEq] at hr
          subst hr
          simp only [Bool.and_eq_true] at hb
          obtain rfl := AVal.beq_eq _ _ hb.1
          cases hv : (SL .row).den ρ with
          | none => simp only [AVal.denL, hv] at hx; cases hx
          | some v0 =>
            obtain ⟨b0, o0, c0, av⟩ := avL ok hl hh hg.1 hb.2 hv
            have hx' : AVal.denL ρ [SL .row, .sliceNil] = some [v0, .slice none 0 0] := denL2 hv rfl
            obtain rfl : _ = xs := Option.some.inj (hx'.symm.trans hx)
            have hcall := wr8V (O := []) ok.n60 (by simp) av (.inl ⟨rfl, rfl⟩)
            rw [hw0] at hcall
            exact spV_ok hcall rfl hh hc
      · rename_i heq; cases heq
      · cases hr
    | cons r0 rs =>
      have hk : Sk.of d = .row := by unfold Sk.of; rw [hs]
      rw [hk] at hr
      have hsr := row_sres h8 hs (by simp)
      unfold spW8 at hr
      split at hr
      · rename_i heq; cases heq
      · rename_i a l m c _
        split at hr
        rotate_left
        · cases hr
        rename_i k hkk
        cases hb : (AVal.beq a (SL .row) && (hasE (EL .row) H && (IT.beq m (.var 76) && ABlk.beq k.k (orB c (.var 75) (.var 76)).k))) with
        | false => rw [hb] at hr; cases hr
        | true =>
          rw [hb] at hr; simp only [cond_true, Option.some.injEq] at hr
          subst hr
          simp only [Bool.and_eq_true] at hb
          obtain ⟨h1, h2, h3, h4⟩ := hb
          obtain rfl := AVal.beq_eq _ _ h1
          obtain rfl := IT.beq_eq h3
          have e75 : (IT.var 75).den ρ = some (encL (r0 :: rs)) := by
            have : (IT.var 75).den ρ = some (encL ((sRes d).getD [])) := pinX hg (by simp [pinsX])
            rw [hsr] at this; exact this
          have e76 : (IT.var 76).den ρ = some ((r0 :: rs).length : Int) := by
            have : (IT.var 76).den ρ = some (((sRes d).getD []).length : Int) := pinX hg (by simp [pinsX])
            rw [hsr] at this; exact this
          have hlen : (r0 :: rs).length ≤ 60 := by
            have h1 := onP_len (d := d1 d 0) hsr
            have h2 : (lfA d).length ≤ (ivs d).length := lf_len _
            have h3 := iv60 ok
            simp only [List.length_nil] at h1
            omega
          obtain ⟨b, o, hN, ho, hrel⟩ := hh.blk _ _ hkk
          rw [ABlk.beq_eq h4] at hrel
          obtain ⟨cc, fr, el, cap, rfl, hp, hcs, hcap⟩ := orB_out (L := r0 :: rs) hrel e75
          cases hv : (SL .row).den ρ with
          | none =>
            have hx0 : AVal.denL ρ [SL .row, .slice l (.lit 0) (.var 76) (.nv c)] = some xs := hx
            simp only [AVal.denL, hv] at hx0; cases hx0
          | some v0 =>
            obtain ⟨b0, o0, c0, av⟩ := avL ok hl hh hg.1 h2 hv
            have hx' : AVal.denL ρ [SL .row, .slice l (.lit 0) (.var 76) (.nv c)] = some [v0, .slice (some ⟨b, 0, none⟩) (r0 :: rs).length cap] := denL2 hv (den_slice_of hN rfl e76 hcap)
            obtain rfl : _ = xs := Option.some.inj (hx'.symm.trans hx)
            have hle : (r0 :: rs).length ≤ cap := by
              have h := hp.length_le
              rw [List.length_map] at h
              rw [← hcs]; exact h
            have hcall := wr8V (O := r0 :: rs) ok.n60 hlen av (.inr ⟨b, 0, cap, hle, rfl, by simp, by simp, cc, fr, el, ho, Nat.zero_le _, by rw [List.drop_zero, rowOf1]; exact hp⟩)
            rw [hw0] at hcall
            exact spV_ok hcall rfl hh hc
      · cases hr
theorem spAL_ok (ok : DOk d) (hl : d.kl = .row) (h8 : ¬ 8 < (ivs d).length) : SpGOk Try.prog ⟨w0, [], Gx d⟩ 9 (spAL (Sk.of d)) := by
  intro args H nl cs ls ρ w xs hr hx hh hc
  have hg : (Gx d).at ρ := hh.g
  unfold spAL at hr
  split at hr
  rotate_left
  · cases hr
  rename_i a
  cases hb : (AVal.beq a (SL .row) && hasE (EL .row) H) with
  | false => rw [hb] at hr; cases hr
  | true =>
    rw [hb] at hr; simp only [cond_true, Option.some.injEq] at hr
    subst hr
    simp only [Bool.and_eq_true] at hb
    obtain rfl := AVal.beq_eq _ _ hb.1
    cases hv : (SL .row).den ρ with
    | none => simp only [AVal.denL, hv] at hx; cases hx
    | some v0 =>
      obtain ⟨b0, o0, c0, av⟩ := avL ok hl hh hg.1 hb.2 hv
      have hx' : AVal.denL ρ [SL .row, .sliceNil] = some [v0, .slice none 0 0] := denL2 hv rfl
      obtain rfl : _ = xs := Option.some.inj (hx'.symm.trans hx)
      have hn60 := ok.n60
      have hcall := any9 (x := d.x) (n := d.n) d.n w [] v0 (.slice none 0 0) b0 o0 c0 hn60 (by rw [miss_nil]; exact Nat.le_refl _) (by simpa using hn60) av (.inl ⟨rfl, rfl⟩)
      rw [← SPd_any h8 (f := d.n + 1) (by omega)] at hcall
      refine spV_ok hcall ?_ hh hc
      unfold Sk.of
      cases hs : SPd d with
      | none => rfl
      | some R => cases R <;> rfl
end
end Ls
end Go.Proofs.Ytpgonpjakllnjaa
end

/-
  LinearSearch (24): the law's heads.
-/
section
namespace Go.Proofs.Ytpgonpjakllnjaa
open Go.Vm Go.Vm.Md Lm Lt
namespace Ls

def TL3 : Tpl := ⟨[(0, SL .row), (3, iV 20), (10, SL .row), (11, iV 36), (12, iV 9)], 67, Lt.roH (EL .row), 60, cs9 (.var 36) ++ csL .row, 3⟩
/-- A history of any length. -/
def TLl : Tpl := ⟨[(0, SL .row), (3, iV 20), (10, SL .row), (11, iV 36), (12, iV 9)], 67, Lt.roH (EL .row), 60, cs9 (.var 36) ++ [q9 .gtr (.var 36) (.lit 30) true], 3⟩
def spL3 (s : Sk) : CallF := spL [(6, spTrue), (7, spSr .row s), (8, spW8 s), (9, spAL s)]
def spLz (k : Kd) : CallF := spL [(6, spTrue), (7, spSr k .nil), (8, spWr k .nil)]
def sp1 : CallF := spL [(6, spTrue)]
end Ls
end Go.Proofs.Ytpgonpjakllnjaa
end

/-
  LinearSearch (25): the law.
-/
section
namespace Go.Proofs.Ytpgonpjakllnjaa
open Go.Vm Go.Vm.Md Lm Lt
namespace Ls

noncomputable def L3 : Code := lb Try.f3 0
noncomputable def Q3 : List Item := lq Try.f3 0
noncomputable def RL (sp : CallF) (T : Tpl) (c : Cs) (l : LS) : Prop := (run Try.prog [] sp 4000 true 3 ((⟨T.tm, T.nt, T.H, T.nl, c ++ T.cs, T.dep⟩ : Tpl).st (.code L3 :: .inLoop L3 :: Q3))).map (·.filterMap (sumD gM [T])) = some [l]
noncomputable def RLi (pl : PL) (sp : CallF) (k : Kd) (Ts : List Tpl) (c : Cs) (l : LS) : Prop := (run Try.prog [] sp 4000 pl 3 (entry Try.f3 (Try.f3.body.getD .ret) [SL k] (ofP (Lt.roH (EL k))) 50 c)).map (·.filterMap (sumD gM Ts)) = some [l]
def yes3 : LS := .ret (.bool (.lit true)) []
def cT : IT := .bin .add .i64 (.var 20) (.lit 1)
def s3 (t u : IT) : Sub := ⟨[(20, u), (9, t)], [], [], [], [(0, 0)]⟩
def long : Cs := [q9 .gtr (.var 36) (.lit 30) true]
def goL (b : Bool) : Cs := [q9 .lss at9 (.var 36) true, q9 .eql (rT at9 1) (.lit 2) b]
def enL : Cs := [q9 .lss at9 (.var 36) false]
def z8 : Cs := [q9 .eql (.var 45) (.lit 0) true, q9 .neq (.var 45) (.lit 0) false]
theorem l_in : RLi true sp1 .row [TL3] (csL .row) (.next 0 (.code (.loop L3) :: Q3) [] (s3 (.lit 0) (.lit 0))) := by unfold RLi; kernel_rfl
theorem l_inl : RLi true sp1 .row [TLl] long (.next 0 (.code (.loop L3) :: Q3) [] (s3 (.lit 0) (.lit 0))) := by unfold RLi; kernel_rfl
theorem l_none (k : Kd) (h : k ≠ .row) : RLi (PL.only []) (spLz k) k [] z8 yes3 := by unfold RLi; cases k <;> first | exact absurd rfl h | kernel_rfl
theorem l_y : RL sp1 TL3 (goL true) (.next 0 (.inLoop L3 :: Q3) [] (s3 up9 cT)) := by unfold RL; kernel_rfl
theorem l_n : RL sp1 TL3 (goL false) (.next 0 (.inLoop L3 :: Q3) [] (s3 up9 (.var 20))) := by unfold RL; kernel_rfl
theorem ll_y : RL sp1 TLl (goL true) (.next 0 (.inLoop L3 :: Q3) [] (s3 up9 cT)) := by unfold RL; kernel_rfl
theorem ll_n : RL sp1 TLl (goL false) (.next 0 (.inLoop L3 :: Q3) [] (s3 up9 (.var 20))) := by unfold RL; kernel_rfl
theorem ll_e : RL sp1 TLl enL yes3 := by unfold RL; kernel_rfl
theorem l_30 : RL sp1 TL3 (enL ++ [q9 .gtr (.var 36) (.lit 30) true]) yes3 := by unfold RL; kernel_rfl
theorem l_6 : RL sp1 TL3 (enL ++ [q9 .gtr (.var 36) (.lit 30) false, q9 .gtr (.var 20) (.lit 5) true, q9 .lss (.var 20) (.lit 9) true]) yes3 := by unfold RL; kernel_rfl
theorem l_s (s : Sk) : RL (spL3 s) TL3 (enL ++ [q9 .gtr (.var 36) (.lit 30) false, q9 .gtr (.var 20) (.lit 5) false, q9 .gtr (.var 20) (.lit 8) false]) yes3 := by unfold RL; cases s <;> kernel_rfl
theorem first6 (w : World) : Calls Try.prog 6 #[] w (fun e w' => e = .returned (.bool true) ∧ Framed w w') :=
  calls_true (β := .plain w) (ρ := envOf [] [] F0) xQ_ok noSp_ok rfl Try.func6 rfl run6 (xs := []) rfl (HRel.start w _ fun _ => rfl) (fun _ h => by cases h)
theorem first_ok {β : Base} : SpGOk Try.prog β 6 spTrue := spTrue_ok first6
theorem sp1_ok {β : Base} : CallOk Try.prog β sp1 := spL_ok fun p hp => by rw [List.mem_singleton.1 hp]; exact first_ok
theorem scan3 {β : Base} {T : Tpl} {Q : Value → Prop} (hown : β.own = []) (J : Env → Prop) (μ : Env → Nat)
    (hs : ∀ ρ, J ρ → GP.at β.G ρ → CRel ρ T.cs → (∀ ρ', μ ρ' < μ ρ → J ρ' → ∀ todo a w, todo = .inLoop L3 :: Q3 ∨ todo = .code (.loop L3) :: Q3 → SRel β ρ' (T.st todo) a w → Goes Try.prog 3 (fun v w' => Q v ∧ Framed β.w0 w') todo a w) → ∃ sp c l, CallOk Try.prog β sp ∧ CRel ρ c ∧ RL sp T c l ∧ SumGood Try.prog β 3 Q [T] ρ l) :
    ∀ ρ, J ρ → ∀ todo a w, todo = .inLoop L3 :: Q3 ∨ todo = .code (.loop L3) :: Q3 → SRel β ρ (T.st todo) a w → Goes Try.prog 3 (fun v w' => Q v ∧ Framed β.w0 w') todo a w := by
  suffices H : ∀ N ρ, μ ρ = N → J ρ → ∀ todo a w, todo = .inLoop L3 :: Q3 ∨ todo = .code (.loop L3) :: Q3 → SRel β ρ (T.st todo) a w → Goes Try.prog 3 (fun v w' => Q v ∧ Framed β.w0 w') todo a w from fun ρ => H _ ρ rfl
  intro N
  induction N using Nat.strongRecOn with
  | _ N ih =>
    intro ρ hN hJ todo a w htd r
    obtain ⟨sp, c, l, hsp, h1, h2, h3⟩ := hs ρ hJ r.h.g r.c fun ρ' hlt hJ' todo' a' w' ht' r' => ih (μ ρ') (by omega) ρ' rfl hJ' todo' a' w' ht' r'
    obtain ⟨ls, hls, hsum⟩ := Option.map_eq_some_iff.1 h2
    have key : Goes Try.prog 3 (fun v w' => Q v ∧ Framed β.w0 w') (.code L3 :: .inLoop L3 :: Q3) a w := run_sound noCount noExt hsp follows 4000 true 3 _ ls ρ a w _ hls ⟨r.d, r.n, r.t, r.h, CRel_app.2 ⟨h1, r.c⟩⟩ (sums_all (g := gM) (Ts := [T]) hown (sums := ls.filterMap (sumL gM [T])) rfl (dcs hsum (Go.Vm.one h3)))
    rcases htd with rfl | rfl
    · exact Goes.one (fun cs => step_inLoop) key
    · exact Goes.one (fun cs => step_loop) key
end Ls
end Go.Proofs.Ytpgonpjakllnjaa
end

/-
  LinearSearch (26): the law, over its names.
-/
section
namespace Go.Proofs.Ytpgonpjakllnjaa
open Go.Vm Go.Vm.Md Lm Lt
namespace Ls

theorem l_9' : RL (spL [(6, spTrue), (7, spSr .row .no)]) TL3 (enL ++ [q9 .gtr (.var 36) (.lit 30) false, q9 .gtr (.var 20) (.lit 5) true, q9 .lss (.var 20) (.lit 9) false, q9 .gtr (.var 20) (.lit 8) true]) yes3 := by unfold RL; kernel_rfl
structure JL (d : Dt) (i : Nat) (ρ : Env) : Prop where
  i9 : ρ.I 9 = (i : Int)
  le : i ≤ d.n
  cn : ρ.I 20 = ((d.iv i).length : Int)
section
variable {d : Dt} {ρ : Env} {w : World} {xs : List Value}
theorem law3r (ok : DOk d) (hl : d.kl = .row) (hr : HRel ⟨w, [], Gx d⟩ ρ (ofP (Lt.roH (EL .row))) 50 w) (hx : AVal.denL ρ [SL .row] = some xs) : Calls Try.prog 3 xs.toArray w fun e w' => e = .returned (.bool true) ∧ Framed w w' := by
  have h60 := ok.n60
  have yes : ∀ {Ts : List Tpl} {ρ : Env}, SumGood Try.prog ⟨w, [], Gx d⟩ 3 (fun v => v = .bool true) Ts ρ yes3 := retS (z := .bool true) (fun _ _ => rfl) rfl
  have cs0 : ∀ {ρ : Env}, (Gx d).at ρ → CRel ρ (csL .row) := fun hG => by
    have g := dcL ok hG.1
    rw [hl] at g; exact g
  have hsr : SpGOk Try.prog ⟨w, [], Gx d⟩ 7 (spSr .row (Sk.of d)) := by
    have h := spSr_ok (w0 := w) ok
    rw [hl] at h; exact h
  have loop := scan3 (β := ⟨w, [], Gx d⟩) (T := TL3) (Q := fun v => v = .bool true) rfl (fun ρ => ∃ i, JL d i ρ) (fun ρ => ((d.n : Int) - ρ.I 9).toNat) fun ρ ⟨i, j⟩ hG hcs ih => by
    have hg : (Gx d).at ρ := hG
    have hi := j.le
    have e9 : at9.den ρ = some (i : Int) := varD j.i9
    have e36 := pN hg.1
    have e1 := rT_den hg.1 e9 1
    have step : ∀ {t : IT} {u : Nat}, i < d.n → (∀ ρ' : Env, ρ.Le ρ' → t.den ρ' = some (u : Int)) → u = (d.iv (i + 1)).length → SumGood Try.prog ⟨w, [], Gx d⟩ 3 (fun v => v = .bool true) [TL3] ρ (.next 0 (.inLoop L3 :: Q3) [] (s3 up9 t)) := fun {t u} hlt ht hu => nextS rfl fun ρ' hle hG' => by
      have jn : JL d (i + 1) ((s3 up9 t).app ρ') := ⟨sbI (t := up9) rfl (upD (varD (by rw [hle.i]; exact j.i9)) (by omega)), hlt, by rw [← hu]; exact sbI (t := t) rfl (ht ρ' hle)⟩
      have hGn : (Gx d).at ((s3 up9 t).app ρ') := gxKeep rfl hG'
      exact ⟨hGn, CRel_app.2 ⟨cs9_ok jn.i9 (pN hGn.1) jn.le, cs0 hGn⟩, fun a w' r => ih _ (by rw [jn.i9, j.i9]; omega) ⟨_, jn⟩ _ a w' (.inl rfl) r⟩
    by_cases hlt : i < d.n
    · have f1 : ∀ {b : Bool}, decide (d.c (i : Int) 1 = 2) = b → CRel ρ (goL b) := fun {b} hb => qD e9 e36 (by simp [intCmp]; omega) (qD e1 (litD 2) (by rw [← hb]; rfl) c0)
      have hle := d.iv_le i
      by_cases hk : d.c (i : Int) 1 = 2
      · refine ⟨_, _, _, sp1_ok, f1 (decide_eq_true hk), l_y, step (u := (d.iv i).length + 1) hlt (fun ρ' hle' => ?_) (by rw [Dt.iv, if_pos hk, List.length_append]; rfl)⟩
        exact upD (varD (by rw [hle'.i]; exact j.cn)) (by omega)
      · exact ⟨_, _, _, sp1_ok, f1 (decide_eq_false hk), l_n, step (u := (d.iv i).length) hlt (fun ρ' hle' => varD (by rw [hle'.i]; exact j.cn)) (by rw [Dt.iv, if_neg hk])⟩
    · obtain rfl : i = d.n := by omega
      have e20 : (IT.var 20).den ρ = some ((ivs d).length : Int) := varD j.cn
      have en : ∀ {c : Cs}, CRel ρ c → CRel ρ (enL ++ c) := fun hc => CRel_app.2 ⟨qD e9 e36 (by simp [intCmp]) c0, hc⟩
      by_cases h30 : 30 < d.n
      · exact ⟨_, _, _, sp1_ok, en (qD e36 (litD 30) (by simp [intCmp]; omega) c0), l_30, yes⟩
      · have f30 : ∀ {c : Cs}, CRel ρ c → CRel ρ (q9 .gtr (.var 36) (.lit 30) false :: c) := fun hc => qD e36 (litD 30) (by simp [intCmp]; omega) hc
        by_cases h5 : 5 < (ivs d).length
        · have f5 : ∀ {c : Cs}, CRel ρ c → CRel ρ (q9 .gtr (.var 20) (.lit 5) true :: c) := fun hc => qD e20 (litD 5) (by simp [intCmp]; omega) hc
          by_cases h9 : (ivs d).length < 9
          · exact ⟨_, _, _, sp1_ok, en (f30 (f5 (qD e20 (litD 9) (by simp [intCmp]; omega) c0))), l_6, yes⟩
          · have hk : Sk.of d = .no := by
              unfold Sk.of SPd
              rw [if_pos (by omega)]
            rw [hk] at hsr
            refine ⟨_, _, _, spL_ok fun p hp => ?_, en (f30 (f5 (qD e20 (litD 9) (by simp [intCmp]; omega) (qD e20 (litD 8) (by simp [intCmp]; omega) c0)))), l_9', yes⟩
            simp only [List.mem_cons, List.not_mem_nil, or_false] at hp
            rcases hp with rfl | rfl
            · exact first_ok
            · exact hsr
        · refine ⟨_, _, _, spL_ok fun p hp => ?_, en (f30 (qD e20 (litD 5) (by simp [intCmp]; omega) (qD e20 (litD 8) (by simp [intCmp]; omega) c0))), l_s (Sk.of d), yes⟩
          simp only [List.mem_cons, List.not_mem_nil, or_false] at hp
          rcases hp with rfl | rfl | rfl | rfl
          · exact first_ok
          · exact hsr
          · exact spW8_ok ok hl
          · exact spAL_ok ok hl (by omega)
  refine toE (callq (Ts := [TL3]) (pl := true) sp1_ok rfl Try.func3 rfl l_in hx hr (cs0 hr.g) (Go.Vm.one (nextS rfl fun ρ' hle hG' => ?_)))
  have jn : JL d 0 ((s3 (.lit 0) (.lit 0)).app ρ') := ⟨sbI (t := .lit 0) rfl rfl, Nat.zero_le _, sbI (t := .lit 0) rfl rfl⟩
  have hGn : (Gx d).at ((s3 (.lit 0) (.lit 0)).app ρ') := gxKeep rfl hG'
  exact ⟨hGn, CRel_app.2 ⟨cs9_ok jn.i9 (pN hGn.1) jn.le, cs0 hGn⟩, fun a w' r => loop _ ⟨0, jn⟩ _ a w' (.inr rfl) r⟩
theorem law3n (ok : DOk d) (hl : d.kl ≠ .row) (ho : d.ko = .nil) (hr : HRel ⟨w, [], Gx d⟩ ρ (ofP (Lt.roH (EL d.kl))) 50 w) (hx : AVal.denL ρ [SL d.kl] = some xs) : Calls Try.prog 3 xs.toArray w fun e w' => e = .returned (.bool true) ∧ Framed w w' := by
  have hn0 := n0_of ok hl
  have hm0 := m0_of ok (by rw [ho]; simp)
  have hg : (Gx d).at ρ := hr.g
  have hw0 : d.wrong = 0 := by simp [Dt.wrong, Dt.mem, hm0, hn0, anyT]
  have e45 : (IT.var 45).den ρ = some 0 := by
    have : (IT.var 45).den ρ = some d.wrong := pin hg.1 (by simp [pins])
    rw [this, hw0]
  have hk : Sk.of d = .nil := by
    have hi : ivs d = [] := by unfold ivs; rw [hn0]; rfl
    have hm : muA d = [] := by unfold muA; rw [hi]; rfl
    unfold Sk.of SPd
    rw [hi, hm]; rfl
  have hsr := spSr_ok (w0 := w) ok
  rw [hk] at hsr
  have hw8 : SpGOk Try.prog ⟨w, [], Gx d⟩ 8 (spWr d.kl .nil) := by
    have h : SpGOk Try.prog ⟨w, [], Gx d⟩ 8 (spWr d.kl d.ko) := SpGOk.mapG (spWr8_ok ok (β := ⟨w, [], Gd d⟩) rfl) fun _ _ _ _ _ h => h.1
    rw [ho] at h; exact h
  have hsp : CallOk Try.prog ⟨w, [], Gx d⟩ (spLz d.kl) := spL_ok fun p hp => by
    simp only [List.mem_cons, List.not_mem_nil, or_false] at hp
    rcases hp with rfl | rfl | rfl
    · exact first_ok
    · exact hsr
    · exact hw8
  exact toE (callq (Ts := []) (pl := PL.only []) hsp rfl Try.func3 rfl (l_none d.kl hl) hx hr (qD e45 (litD 0) rfl (qD e45 (litD 0) rfl c0)) (Go.Vm.one (retS (z := .bool true) (fun _ _ => rfl) rfl)))
-- A LONG HISTORY
structure JM (d : Dt) (i : Nat) (ρ : Env) : Prop where
  i9 : ρ.I 9 = (i : Int)
  le : i ≤ d.n
theorem law3l (hn : 30 < d.n) (hb : d.n < 9223372036854775808) (hr : HRel ⟨w, [], Gd d⟩ ρ (ofP (Lt.roH (EL .row))) 50 w) (hx : AVal.denL ρ [SL .row] = some xs) : Calls Try.prog 3 xs.toArray w fun e w' => e = .returned (.bool true) ∧ Framed w w' := by
  have yes : ∀ {Ts : List Tpl} {ρ : Env}, SumGood Try.prog ⟨w, [], Gd d⟩ 3 (fun v => v = .bool true) Ts ρ yes3 := retS (z := .bool true) (fun _ _ => rfl) rfl
  have cs0 : ∀ {ρ : Env}, (Gd d).at ρ → CRel ρ long := fun hG => qD (pN hG) (litD 30) (by simp [intCmp]; omega) c0
  have loop := scan3 (β := ⟨w, [], Gd d⟩) (T := TLl) (Q := fun v => v = .bool true) rfl (fun ρ => ∃ i, JM d i ρ) (fun ρ => ((d.n : Int) - ρ.I 9).toNat) fun ρ ⟨i, j⟩ hG hcs ih => by
    have hg : (Gd d).at ρ := hG
    have hi := j.le
    have e9 : at9.den ρ = some (i : Int) := varD j.i9
    have e36 := pN hg
    have e1 := rT_den hg e9 1
    have step : ∀ {t : IT}, i < d.n → SumGood Try.prog ⟨w, [], Gd d⟩ 3 (fun v => v = .bool true) [TLl] ρ (.next 0 (.inLoop L3 :: Q3) [] (s3 up9 t)) := fun {t} hlt => nextS rfl fun ρ' hle hG' => by
      have jn : JM d (i + 1) ((s3 up9 t).app ρ') := ⟨sbI (t := up9) rfl (by
        have h0 : at9.den ρ' = some (i : Int) := varD (by rw [hle.i]; exact j.i9)
        have h := plusD h0 (litD 1) (by omega) (by omega)
        exact h), hlt⟩
      have hGn : (Gd d).at ((s3 up9 t).app ρ') := gKeep rfl hG'
      exact ⟨hGn, CRel_app.2 ⟨cs9_ok jn.i9 (pN hGn) jn.le, cs0 hGn⟩, fun a w' r => ih _ (by rw [jn.i9, j.i9]; omega) ⟨_, jn⟩ _ a w' (.inl rfl) r⟩
    by_cases hlt : i < d.n
    · have f1 : ∀ {b : Bool}, decide (d.c (i : Int) 1 = 2) = b → CRel ρ (goL b) := fun {b} hb => qD e9 e36 (by simp [intCmp]; omega) (qD e1 (litD 2) (by rw [← hb]; rfl) c0)
      by_cases hk : d.c (i : Int) 1 = 2
      · exact ⟨_, _, _, sp1_ok, f1 (decide_eq_true hk), ll_y, step hlt⟩
      · exact ⟨_, _, _, sp1_ok, f1 (decide_eq_false hk), ll_n, step hlt⟩
    · obtain rfl : i = d.n := by omega
      exact ⟨_, _, _, sp1_ok, qD e9 e36 (by simp [intCmp]) c0, ll_e, yes⟩
  refine toE (callq (Ts := [TLl]) (pl := true) sp1_ok rfl Try.func3 rfl l_inl hx hr (cs0 hr.g) (Go.Vm.one (nextS rfl fun ρ' hle hG' => ?_)))
  have jn : JM d 0 ((s3 (.lit 0) (.lit 0)).app ρ') := ⟨sbI (t := .lit 0) rfl rfl, Nat.zero_le _⟩
  have hGn : (Gd d).at ((s3 (.lit 0) (.lit 0)).app ρ') := gKeep rfl hG'
  exact ⟨hGn, CRel_app.2 ⟨cs9_ok jn.i9 (pN hGn) jn.le, cs0 hGn⟩, fun a w' r => loop _ ⟨0, jn⟩ _ a w' (.inr rfl) r⟩
end
end Ls
end Go.Proofs.Ytpgonpjakllnjaa
end

/-
  LinearSearch (27): the law, of values.
-/
section
namespace Go.Proofs.Ytpgonpjakllnjaa
open Go.Vm Go.Vm.Md Lm Lt
namespace Ls

/-- What the argument is. -/
def AV3 (w : World) (k : Kd) (v : Value) (n b o c : Nat) (L : List Int) : Prop := match k with
  | .nil => v = .slice none 0 0 ∧ n = 0 ∧ L = []
  | .zero => v = .slice (some ⟨b, o, none⟩) 0 c ∧ n = 0 ∧ L = []
  | .row => v = .slice (some ⟨b, o, none⟩) n c ∧ 1 ≤ n ∧ L.length = n * ksR.length ∧ ∃ cc fr el, w.heap[b]? = some (.cells cc el fr) ∧ o ≤ cc.size ∧ rowOf ksR L <+: cc.toList.drop o
section
variable {d : Dt} {w : World} {o0 c0' b0 : Nat}
noncomputable def IdX (d : Dt) : Nat → Int := fun i => match lk (pins d ++ pinsX d) i with
  | some x => x
  | none => 0
noncomputable def envX (d : Dt) (o0 cc0 b0 : Nat) : Env :=
  ⟨fun i => if i = 62 then (o0 : Int) else if i = 63 then (cc0 : Int) else IdX d i, fun _ => false, fun _ => default, fun _ => undef, fun i => if i = 0 then some b0 else none, Lt.Fd d⟩
theorem IdX_d (d : Dt) : ∀ p ∈ pins d, IdX d p.1 = p.2 := fun p hp => by
  simp only [pins, List.mem_cons, List.not_mem_nil, or_false] at hp
  rcases hp with rfl | rfl | rfl | rfl | rfl | rfl | rfl | rfl | rfl | rfl | rfl | rfl | rfl | rfl | rfl | rfl <;> rfl
theorem IdX_x (d : Dt) : ∀ p ∈ pinsX d, IdX d p.1 = p.2 := fun p hp => by
  simp only [pinsX, List.mem_cons, List.not_mem_nil, or_false] at hp
  rcases hp with rfl | rfl | rfl | rfl | rfl | rfl | rfl <;> rfl
theorem envX_G : (Gx d).at (envX d o0 c0' b0) := by
  refine ⟨⟨fun p hp => ?_, ⟨rfl, rfl, rfl, rfl, rfl, rfl, rfl⟩, rfl, rfl, rfl, rfl, rfl, rfl, rfl, rfl⟩, fun p hp => ?_⟩
  · have h1 := IdX_d d p hp
    simp only [pins, List.mem_cons, List.not_mem_nil, or_false] at hp
    rcases hp with rfl | rfl | rfl | rfl | rfl | rfl | rfl | rfl | rfl | rfl | rfl | rfl | rfl | rfl | rfl | rfl <;> exact h1
  · have h1 := IdX_x d p hp
    simp only [pinsX, List.mem_cons, List.not_mem_nil, or_false] at hp
    rcases hp with rfl | rfl | rfl | rfl | rfl | rfl | rfl <;> exact h1
theorem argX {v : Value} {L : List Int} (h : AV3 w d.kl v d.n b0 o0 c0' L) : (SL d.kl).den (envX d o0 c0' b0) = some v := by
  have e36 : (envX d o0 c0' b0).I 36 = (d.n : Int) := rfl
  cases hk : d.kl with
  | nil => rw [hk] at h; rw [h.1]; rfl
  | zero => rw [hk] at h; rw [h.1]; exact den_slice_of (n := 0) rfl (varD rfl) rfl (varD rfl)
  | row => rw [hk] at h; rw [h.1]; exact den_slice_of rfl (varD rfl) (varD e36) (varD rfl)
theorem envX_N {i : Nat} (h : 50 ≤ i) : (envX d o0 c0' b0).N i = none := by
  show (if i = 0 then some b0 else none) = none
  rw [if_neg (by omega)]
theorem lawV {kl : Kd} {v : Value} {n : Nat} {L : List Int} (h0 : AV3 w kl v n b0 o0 c0' L) (hb : n < 9223372036854775808) : Calls Try.prog 3 #[v] w fun e w' => e = .returned (.bool true) ∧ Framed w w' := by
  obtain ⟨d, hd⟩ : ∃ d : Dt, d = ⟨kl, .nil, encL L, encL [], n, 0, 0⟩ := ⟨_, rfl⟩
  have hkl : d.kl = kl := by rw [hd]
  have hko : d.ko = .nil := by rw [hd]
  have hn : d.n = n := by rw [hd]
  have hm : d.m = 0 := by rw [hd]
  have hxx : d.x = encL L := by rw [hd]
  have hyy : d.y = encL [] := by rw [hd]
  rw [← hkl, ← hn] at h0
  rw [← hn] at hb
  have hx : AVal.denL (envX d o0 c0' b0) [SL d.kl] = some [v] := denL1 (argX h0)
  have hr : HRel ⟨w, [], Gx d⟩ (envX d o0 c0' b0) (ofP (Lt.roH (EL d.kl))) 50 w := by
    refine HRel.ro (EL d.kl) (fun p hp => ?_) (fun i hi => envX_N hi) envX_G (nb_EL _)
    cases hk : d.kl with
    | nil => rw [hk] at hp; cases hp
    | zero => rw [hk] at hp; cases hp
    | row =>
      rw [hk] at hp h0
      obtain rfl := List.mem_singleton.1 hp
      obtain ⟨_, _, hL, cc, fr, el, hob, ho, hpre⟩ := h0
      refine ⟨b0, _, rfl, hob, rowOf ksR L, cc, fr, el, d.n, o0, rfl, (fun e => by cases e), ?_, rfl, ⟨ho, hpre⟩, varD rfl, rowOf_typed hL, trivial, fun e => by cases e⟩
      have e35 : (IT.var 35).den (envX d o0 c0' b0) = some (encL L) := by rw [← hxx]; exact varD rfl
      simp only [AT.den, e35, Option.map_some, decL_encL]
  by_cases hk : d.kl = .row
  · by_cases h30 : 60 < d.n
    · rw [hk] at hr hx
      exact law3l (d := d) (by omega) hb (hr.mapG hr.g.1) hx
    · have ok : DOk d := by
        refine ⟨?_, ?_, by omega, by omega, by omega, ?_, ?_⟩
        · rw [hxx, decL_encL]
          rw [hk] at h0; exact h0.2.2.1
        · rw [hyy, decL_encL, hm]; rfl
        · rw [hk]; rw [hk] at h0; exact h0.2.1
        · rw [hko]; exact hm
      rw [hk] at hr hx
      exact law3r ok hk hr hx
  · have hn0 : d.n = 0 ∧ L = [] := by
      cases hk2 : d.kl with
      | row => exact absurd hk2 hk
      | nil => rw [hk2] at h0; exact h0.2
      | zero => rw [hk2] at h0; exact h0.2
    have ok : DOk d := by
      refine ⟨?_, ?_, by omega, by omega, by omega, ?_, ?_⟩
      · rw [hxx, decL_encL, hn0.1, hn0.2]; rfl
      · rw [hyy, decL_encL, hm]; rfl
      · cases hk2 : d.kl with
        | row => exact absurd hk2 hk
        | nil => exact hn0.1
        | zero => exact hn0.1
      · rw [hko]; exact hm
    exact law3n ok hk hko hr hx
end
end Ls
end Go.Proofs.Ytpgonpjakllnjaa
end
