/- Stocks (9): what is known of a stock's methods, as the machine takes it. -/
import Derived.Test.YtighjgmgpphohaaLp8
namespace Go.Proofs.Ytighjgmgpphohaa
open Go.Vm Go.Vm.Le
namespace Lp
theorem clone13 {w : World} {b : Nat} {F : Nat -> Prop} {most : Int} {h : Nat} {K : List Int} (s : StockIn w b F most h K) : Calls Try.prog 48 #[.pointer (some ⟨b, 0, none⟩)] w (fun e w' => ∃ b', e = .returned (.pointer (some ⟨b', 0, none⟩)) /\ NewR w w' b' most h K /\ Framed w w') := by
 obtain ⟨⟨B, c, fr, vb, bm, es, cl, hob, hc, hf, hom, he, hbn, hs, hne, hbk⟩, m0, m1⟩ := s
 have hsize : c.size = 4 := by
  have : c.toList.length = 4 := by rw [hc]; rfl
  simpa using this
 have hle := hs.le
 have hlen := hs.len
 have srel : ∀ {ρ : Env} {u : AVal}, ρ.I 0 = most -> ρ.I 3 = (h : Int) -> u.den ρ = some vb -> ρ.N 2 = some bm -> (ABlk.cells [iV 0, iV 3, u, .map 2] 103 none).rel ρ false (.cells c 103 fr) := fun {ρ u} h0 h3 hu h2 => by
  have e0 : (iV 0).den ρ = some (.int .i64 most) := by simp only [iV, AVal.den, IT.den, h0, Option.map_some]
  have e3 : (iV 3).den ρ = some (.int .i64 h) := by simp only [iV, AVal.den, IT.den, h3, Option.map_some]
  have e2 : (AVal.map 2).den ρ = some (.map (some bm)) := by simp only [AVal.den, h2, Option.map_some]
  exact ⟨[.int .i64 most, .int .i64 h, vb, .map (some bm)], c, fr, rfl, by simp only [AVal.denL, e0, e3, hu, e2], by rw [hc]; exact List.prefix_refl _, hsize, fun e => by cases e⟩
 have mrel : ∀ {ρ : Env}, ρ.I 4 = encL (usedL K) -> (ABlk.mapc (.var 4)).rel ρ false (.map es cl) := fun {ρ} h4 => ⟨encL (usedL K), es, cl, rfl, congrArg some h4, by rw [decL_encL, entOf_used]; exact he, hbn⟩
 have fresh : ∀ (b1 cap o : Nat) (i : Nat), 5 <= i -> (envL most h B K B b b1 bm cap o undef vb).N i = none := fun b1 cap o i hi => by
  show (if i = 0 then some b else if i = 1 then some b1 else if i = 2 then some bm else if i = 4 then some cap else none) = none
  rw [if_neg (by omega), if_neg (by omega), if_neg (by omega), if_neg (by omega)]
 -- none are given back
 have none1 : ∀ (ρ : Env) (z : Bk), z ≠ .row -> B = [] -> ρ.I 0 = most -> ρ.I 3 = (h : Int) -> ρ.I 4 = encL (usedL K) -> ρ.N 0 = some b -> ρ.N 2 = some bm -> (∀ i, 5 <= i -> ρ.N i = none) -> (cv z).den ρ = some vb ->
  Calls Try.prog 48 #[.pointer (some ⟨b, 0, none⟩)] w (fun e w' => ∃ b', e = .returned (.pointer (some ⟨b', 0, none⟩)) /\ NewR w w' b' most h K /\ Framed w w') := fun ρ z hz hB h0 h3 h4 hn0 hn2 hfr hv => by
  have hL : cL z = [(0, .cells [iV 0, iV 3, cv z, .map 2] 103 none), (2, .mapc (.var 4))] := by cases z <;> first | rfl | exact absurd rfl hz
  have hr : HRel (.plain w) ρ (ofP (cLH z)) 5 w := by
   unfold cLH
   refine HRel.ro (cL z) (fun p hp => ?_) hfr trivial (by cases z <;> rfl)
   rw [hL] at hp
   simp only [List.mem_cons, List.not_mem_nil, or_false] at hp
   rcases hp with rfl | rfl
   · exact ⟨b, _, hn0, hob, srel h0 h3 hv hn2⟩
   · exact ⟨bm, _, hn2, hom, mrel h4⟩
  refine (calls_sumsE (β := .plain w) (R := fun x w' => ∃ b', x = .pointer (some ⟨b', 0, none⟩) /\ NewR w w' b' most h K /\ Framed w w') (g := gS) (L := []) (Rs := eN (.ptr 10 (.lit 0))) (Ts := []) (pl := true) noCount ext_ok (noSpB _) follows Try.func48 rfl ((c_run0 z).resolve_right hz) (denL1 (me_den hn0)) hr c0'
   (one (cloneEnd z h0 h3 (by rw [h4, decL_encL]) hs m0 m1 (fun _ => hB) (fun e => absurd e hz) (fun e => absurd e hz)))).mono fun e w' ⟨v, he, b', hv, hn⟩ => ⟨b', by rw [he, hv], hn⟩
 rcases hbk with ⟨a, rfl, ha, hB, hF⟩ | ⟨b1, cap, X, o1, rfl, ho1, ⟨c1', fr1, rfl, hp1, hs1, hf1⟩, hX, hb1, hb1m, hF⟩
 · cases a with
   | none => exact none1 (envL most h B K B b 0 bm 0 0 undef (.slice none 0 0)) .nil (by simp) hB rfl rfl rfl rfl rfl (fresh 0 0 0) rfl
   | some p =>
    obtain ⟨pb, po, ps⟩ := p
    obtain rfl : ps = none := ha _ rfl
    exact none1 ⟨fun i => if i = 0 then most else if i = 3 then h else if i = 4 then encL (usedL K) else if i = 11 then po else 0, fun _ => false, fun _ => default, fun _ => undef, (envL most h B K B b pb bm 0 po undef undef).N, F0⟩ .zero (by simp) hB rfl rfl rfl rfl rfl (fun i hi => fresh pb 0 po i hi) (den_slice_of (n := 0) (c := 0) rfl rfl rfl rfl)
 · rcases Nat.eq_zero_or_pos B.length with h0 | h0
   · have hB := List.eq_nil_of_length_eq_zero h0
     exact none1 ⟨fun i => if i = 0 then most else if i = 3 then h else if i = 4 then encL (usedL K) else if i = 12 then cap else 0, fun _ => false, fun _ => default, fun _ => undef, (envL most h B K B b b1 bm cap 0 undef undef).N, F0⟩ .zero (by simp) hB rfl rfl rfl rfl rfl (fun i hi => fresh b1 cap 0 i hi)
      (by have := den_slice_of (ρ := ⟨fun i => if i = 0 then most else if i = 3 then h else if i = 4 then encL (usedL K) else if i = 12 then cap else 0, fun _ => false, fun _ => default, fun _ => undef, (envL most h B K B b b1 bm cap 0 undef undef).N, F0⟩) (l := 1) (b := b1) (o := 0) (n := 0) (c := cap) (off := .var 11) (len := .lit 0) (cap := .var 12) rfl rfl rfl rfl
          rw [h0]; exact this)
   · have hBX : B.map (Value.int .i64) <+: c1'.toList := by
      have : B <+: X := by rw [<- hX]; exact List.take_prefix _ _
      exact (List.IsPrefix.map _ this).trans hp1
     have hr : HRel (.plain w) (envL most h B K B b b1 bm cap 0 undef (.slice (some ⟨b1, 0, none⟩) B.length cap)) (ofP (cLH .row)) 5 w := by
      unfold cLH
      refine HRel.ro (cL .row) (fun p hp => ?_) (fresh b1 cap 0) trivial rfl
      simp only [cL, List.mem_cons, List.not_mem_nil, or_false] at hp
      rcases hp with rfl | rfl | rfl
      · exact ⟨b, _, rfl, hob, srel rfl rfl (den_slice_of rfl rfl rfl rfl) rfl⟩
      · exact ⟨bm, _, rfl, hom, mrel rfl⟩
      · refine ⟨b1, _, rfl, ho1, rowOf [.i64] B, c1', fr1, 3, B.length, 0, rfl, (fun e => by cases e), ?_, rfl, ⟨Nat.zero_le _, ?_⟩, rfl, rowOf_typed (by simp), trivial, (fun e => by cases e)⟩
        · show (some (encL B)).map (fun x => rowOf [.i64] (decL x)) = _
          rw [Option.map_some, decL_encL]
        · rw [List.drop_zero, rowOf1]; exact hBX
     have e6 : (IT.var 6).den (envL most h B K B b b1 bm cap 0 undef (.slice (some ⟨b1, 0, none⟩) B.length cap)) = some (B.length : Int) := rfl
     have spCok : CallOk Try.prog (.plain w) spC := spL_ok fun p hp => by
      rw [List.mem_singleton.1 hp]; exact sp19_ok
     refine (calls_sumsE (β := .plain w) (R := fun x w' => ∃ b', x = .pointer (some ⟨b', 0, none⟩) /\ NewR w w' b' most h K /\ Framed w w') (g := gS) (L := []) (Rs := eN (.ptr 10 (.lit 0))) (Ts := []) (pl := true) noCount ext_ok spCok follows Try.func48 rfl ((c_run .row).resolve_right (by simp)) (denL1 (me_den rfl)) hr (c1 (geqT e6 (litD 1) (by omega)) (c1 (leqT e6 (litD 1000000) (by omega)) c0'))
      (one (cloneEnd (B := B) .row rfl rfl (decL_encL _) hs m0 m1 (fun e => absurd rfl e) (fun _ => rfl) (fun _ => decL_encL _)))).mono fun e w' ⟨v, he, b', hv, hn⟩ => ⟨b', by rw [he, hv], hn⟩
def sMost (x : Int) : Int := (decL x).getD 0 0
def sHigh (x : Int) : Int := (decL x).getD 1 0
def sK (x : Int) : List Int := (decL x).drop 2
def sLf (x : Int) : Int := lf (sMost x) (sK x)
def takeC (x : Int) : Int := encL (sMost x :: (if sHigh x < sLf x then sLf x else sHigh x) :: (if sLf x = 0 then sK x else sK x ++ [sLf x]))
def giveC (x n : Int) : Int := encL (sMost x :: sHigh x :: (sK x).erase n)
def GLp : GP := fun _ _ _ _ F => F 80 = (fun x _ => sLf x) /\ F 81 = (fun x _ => takeC x) /\ F 82 = giveC /\ F 83 = (fun x n => if n ∈ sK x then 1 else 0) /\ F 84 = (fun x _ => ((sK x).length : Int)) /\ F 85 = (fun x _ => sHigh x) /\ F 86 = (fun x _ => if sLf x = 0 then 20 else 0) /\ F 87 = (fun x n => if n ∈ sK x then 0 else 21)
section
variable (most h : Int) (K : List Int)
theorem sMost_enc : sMost (encL (most :: h :: K)) = most := by simp [sMost]
theorem sHigh_enc : sHigh (encL (most :: h :: K)) = h := by simp [sHigh]
theorem sK_enc : sK (encL (most :: h :: K)) = K := by simp [sK]
end
def big (H : Heap) (l : Nat) : Option IT := match H.get l with
 | some ⟨.big 0 c, true⟩ => some c
 | _ => none
def spTake : SpG := fun args H nl cs => match args with
 | [.ptr l (.lit (.ofNat 0))] => match big H l with
  | some c => some [.ret (.tuple [.int .i64 (.fn 80 c (.lit 0)), .int .i64 (.fn 86 c (.lit 0))]) (H.set l ⟨.big 0 (.fn 81 c (.lit 0)), true⟩) nl cs]
  | none => none
 | _ => none
def spGive : SpG := fun args H nl cs => match args with
 | [.ptr l (.lit (.ofNat 0)), .int .i64 n] => match big H l with
  | some c => some [.ret (.int .i64 (.fn 87 c n)) (H.set l ⟨.big 0 (.fn 82 c n), true⟩) nl cs]
  | none => none
 | _ => none
def spNew : SpG := fun args H nl cs => match args with
 | [.int .i64 m] => cond (sureC cs (.cmp .lss m (.lit 0)) || sureC cs (.cmp .gtr m (.lit 65535))) none (match lookB cs (.cmp .lss m (.lit 0)), lookB cs (.cmp .gtr m (.lit 65535)) with
  | some false, some false => some [.ret (.tuple [.ptr nl (.lit 0), .int .i64 (.lit 0)]) (H.set nl ⟨.big 0 (.un 3 (.un 3 (.lit 0) m) (.lit 0)), true⟩) (nl + 1) cs]
  | _, _ => none)
 | _ => none
theorem big_get {H : Heap} {l : Nat} {c : IT} (h : big H l = some c) : H.get l = some ⟨.big 0 c, true⟩ := by
 unfold big at h
 split at h
 · rename_i hg; cases h; exact hg
 · cases h
theorem ptr_of {ρ : Env} {l b : Nat} {v : Value} (h : (AVal.ptr l (.lit 0)).den ρ = some v) (hN : ρ.N l = some b) : v = .pointer (some ⟨b, 0, none⟩) := by
 simp only [AVal.den, hN] at h
 exact (Option.some.inj h).symm
section
variable {β : Base} (hG : ∀ I B S V F, β.G I B S V F -> GLp I B S V F)
include hG
theorem spTake_ok : SpGOk Try.prog β 57 spTake := by
 intro args H nl cs ls ρ w xs hr hx hh hc
 unfold spTake at hr
 split at hr
 rotate_left
 · cases hr
 rename_i l
 split at hr
 rotate_left
 · cases hr
 rename_i c hb
 cases hr
 obtain ⟨b, x, F, hN, hcx, hfm, upd⟩ := hh.bigAt (big_get hb)
 obtain ⟨most, h, K, rfl, s⟩ := fam0_inv hfm
 obtain ⟨g80, g81, _, _, _, _, g86, _⟩ := hG _ _ _ _ _ hh.g
 simp only [AVal.denL] at hx
 cases hp : (AVal.ptr l (.lit 0)).den ρ with
 | none => rw [show (IT.lit (Int.ofNat 0)) = .lit 0 from rfl, hp] at hx; cases hx
 | some pv =>
  rw [show (IT.lit (Int.ofNat 0)) = .lit 0 from rfl, hp] at hx; cases hx
  obtain rfl := ptr_of hp hN
  have hs : sLf (encL (most :: (h : Int) :: K)) = lf most K := by simp only [sLf, sMost_enc, sK_enc]
  refine (take8 s).mono fun e w' ⟨he, F', st, s'⟩ => ?_
  have e80 : (IT.fn 80 c (.lit 0)).den ρ = some (lf most K) := by rw [fnD hcx (litD 0), g80]; simp only [hs]
  have e86 : (IT.fn 86 c (.lit 0)).den ρ = some (if lf most K = 0 then 20 else 0) := by rw [fnD hcx (litD 0), g86]; simp only [hs]
  have e81 : (IT.fn 81 c (.lit 0)).den ρ = some (encL (most :: ((max h (lf most K).toNat : Nat) : Int) :: (if lf most K = 0 then K else K ++ [lf most K]))) := by
   have e : (if (h : Int) < lf most K then lf most K else (h : Int)) = ((max h (lf most K).toNat : Nat) : Int) := by split <;> omega
   rw [fnD hcx (litD 0), g81]
   simp only [takeC, hs, sMost_enc, sHigh_enc, sK_enc, e]
  have hh' := upd rfl w' _ _ F' st (fam0 s') e81
  exact ⟨_, he, _, _, _, _, ρ, List.mem_cons_self, Env.Le.refl ρ, by simp only [AVal.den, AVal.denL, e80, e86, Option.map_some], hh', hc⟩
theorem spGive_ok : SpGOk Try.prog β 73 spGive := by
 intro args H nl cs ls ρ w xs hr hx hh hc
 unfold spGive at hr
 split at hr
 rotate_left
 · cases hr
 rename_i l n
 split at hr
 rotate_left
 · cases hr
 rename_i c hb
 cases hr
 obtain ⟨b, x, F, hN, hcx, hfm, upd⟩ := hh.bigAt (big_get hb)
 obtain ⟨most, h, K, rfl, s⟩ := fam0_inv hfm
 obtain ⟨_, _, g82, _, _, _, _, g87⟩ := hG _ _ _ _ _ hh.g
 simp only [AVal.denL] at hx
 cases hp : (AVal.ptr l (.lit 0)).den ρ with
 | none => rw [show (IT.lit (Int.ofNat 0)) = .lit 0 from rfl, hp] at hx; cases hx
 | some pv =>
  rw [show (IT.lit (Int.ofNat 0)) = .lit 0 from rfl, hp] at hx
  cases hn : n.den ρ with
  | none => simp only [AVal.den, hn, Option.map_none] at hx; cases hx
  | some z =>
   simp only [AVal.den, hn, Option.map_some] at hx; cases hx
   obtain rfl := ptr_of hp hN
   refine (give11 s z).mono fun e w' ⟨he, F', st, s'⟩ => ?_
   have e87 : (IT.fn 87 c n).den ρ = some (if z ∈ K then 0 else 21) := by rw [fnD hcx hn, g87]; simp only [sK_enc]
   have e82 : (IT.fn 82 c n).den ρ = some (encL (most :: (h : Int) :: K.erase z)) := by
    rw [fnD hcx hn, g82]; simp only [giveC, sMost_enc, sHigh_enc, sK_enc]
   have hh' := upd rfl w' _ _ F' st (fam0 s') e82
   exact ⟨_, he, _, _, _, _, ρ, List.mem_cons_self, Env.Le.refl ρ, by simp only [AVal.den, e87, Option.map_some], hh', hc⟩
omit hG in
theorem spNew_ok : SpGOk Try.prog β 39 spNew := by
 intro args H nl cs ls ρ w xs hr hx hh hc
 unfold spNew at hr
 split at hr
 rotate_left
 · cases hr
 rename_i m
 cases hq : (sureC cs (.cmp .lss m (.lit 0)) || sureC cs (.cmp .gtr m (.lit 65535))) with
 | true => rw [hq] at hr; cases hr
 | false =>
  rw [hq] at hr; simp only [cond_false] at hr
  split at hr
  rotate_left
  · cases hr
  rename_i h1 h2
  cases hr
  have g1 := lookB_ok h1 hc
  have g2 := lookB_ok h2 hc
  cases hm : m.den ρ with
  | none => simp only [AVal.denL, AVal.den, hm, Option.map_none] at hx; cases hx
  | some z =>
   simp only [AVal.denL, AVal.den, hm, Option.map_some] at hx; cases hx
   rw [cmpD hm (litD 0)] at g1
   rw [cmpD hm (litD 65535)] at g2
   simp only [intCmp, Option.some.injEq, decide_eq_false_iff_not] at g1 g2
   refine (new7 w z (by omega) (by omega)).mono fun e w' ⟨b', he, ⟨F', s', hF'⟩, hf⟩ => ?_
   have ec : (IT.un 3 (.un 3 (.lit 0) m) (.lit 0)).den ρ = some (encL [z, 0]) := by
    rw [unD (unD (litD 0) hm) (litD 0)]
    show some (encL (decL (encL (decL 0 ++ [z])) ++ [0])) = _
    rw [decL_encL, decL_zero]; rfl
   have hh' := hh.bigNew hf (k := 0) (b := b') (c := .un 3 (.un 3 (.lit 0) m) (.lit 0)) (F := F') (fam0 s') hF' ec
   have hle := Env.le_put (b := b') (hh.fresh nl (Nat.le_refl _))
   exact ⟨_, he, _, _, _, _, ρ.put nl b', List.mem_cons_self, hle, by simp only [AVal.den, AVal.denL, Env.put_same]; rfl, hh', hc.mono hle⟩
end
end Lp
end Go.Proofs.Ytighjgmgpphohaa
