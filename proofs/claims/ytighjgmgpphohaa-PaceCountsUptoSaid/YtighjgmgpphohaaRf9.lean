/- The reference's arena (8): Lay, whatever is handed over. -/
import Derived.Test.YtighjgmgpphohaaRf7
import Derived.Test.YtighjgmgpphohaaRf2
section
namespace Go.Proofs.Ytighjgmgpphohaa
open Go.Vm Go.Vm.Le Go.Vm.Mb
namespace Rf
open Ar (iV uV pT pT_den okR Words WordsAt)
open Gr (add_den getD0)
def envL (g : Nat -> Int) (X z m o : Int) (b : Option Nat) (r c : Nat) : Env :=
 ⟨fun i => if i = 219 then X else if i = 222 then z else if i = 223 then m else if i = 224 then o else g (i - 200), fun _ => false, fun _ => default, fun _ => undef, fun i => if i = 4 then b else if i = 1 then some r else if i = 2 then some c else none, FR⟩
theorem envL_fresh {g : Nat -> Int} {X z m o : Int} {b : Option Nat} {r c : Nat} : ∀ i, 5 <= i -> (envL g X z m o b r c).N i = none := fun i hi => by
 show (if i = 4 then b else if i = 1 then some r else if i = 2 then some c else none) = none
 rw [if_neg (by omega), if_neg (by omega), if_neg (by omega)]
variable {w : World} {F : Nat -> Prop}
theorem row_rel {g : Nat -> Int} {X z : Int} {n o r c : Nat} {b : Option Nat} (h : WordsAt w r o n z) : ∃ ob, w.heap[r]? = some ob /\ rowW.k.rel (envL g X z n o b r c) false ob := by
 obtain ⟨cc, fr, el, hr, ho, hp, ht⟩ := h
 exact ⟨_, hr, _, cc, fr, el, n, o, rfl, (fun e => by cases e), rfl, rfl, ⟨ho, hp⟩, rfl, ht, trivial, (fun e => by cases e)⟩
theorem start_B {ps : Rb} {cap b : Nat} (h : RefIn ps cap w b F) (g : Nat -> Int) (z m o : Int) (r c : Nat) : HRel ⟨w, F, GRb⟩ (envL g (encL (((cap : Nat) : Int) :: ps.map (·.1))) z m o (some b) r c) (ofP [(4, rwB true)]) 5 w := by
 obtain ⟨cur, fr, hb, _⟩ := h.ex
 refine HRel.ownedB [(4, rwB true)] (fun p hp => ?_) (fun p hp q hq _ _ => ?_) (fun p hp _ y hy => ?_) envL_fresh FR_ok ⟨fun _ => F, fun l k c rw hl => ?_, fun l l' k c rw h' hl hl' hne => ?_⟩
 · rw [List.mem_singleton.1 hp]
   exact ⟨b, _, rfl, hb, _, rfl⟩
 · rw [List.mem_singleton.1 hp, List.mem_singleton.1 hq]
 · rw [List.mem_singleton.1 hp] at hy
   cases hy; exact (h.F b).2 rfl
 · have e := List.mem_singleton.1 (ofP_mem hl)
   cases e
   exact ⟨b, _, rfl, rfl, fam4 h, fun _ y hy => .inr hy⟩
 · have e := List.mem_singleton.1 (ofP_mem hl)
   have e' := List.mem_singleton.1 (ofP_mem hl')
   cases e; cases e'
   exact absurd rfl hne
theorem start_BW {ps : Rb} {cap b : Nat} (h : RefIn ps cap w b F) (g : Nat -> Int) {z : Int} {n o r : Nat} (c : Nat) (hF : ¬ F r) (hw : WordsAt w r o n z) : HRel ⟨w, F, GRb⟩ (envL g (encL (((cap : Nat) : Int) :: ps.map (·.1))) z n o (some b) r c) (ofP [(1, rowW), (4, rwB true)]) 5 w := by
 obtain ⟨cur, fr, hb, _⟩ := h.ex
 have hFb : F b := (h.F b).2 rfl
 have mem : ∀ {p : Nat × HB}, p ∈ [(1, rowW), (4, rwB true)] -> p = (1, rowW) ∨ p = (4, rwB true) := fun {p} hp => by
  simpa only [List.mem_cons, List.not_mem_nil, or_false] using hp
 refine HRel.ownedB [(1, rowW), (4, rwB true)] (fun p hp => ?_) (fun p hp q hq hrw he => ?_) (fun p hp hrw y hy => ?_) envL_fresh FR_ok ⟨fun _ => F, fun l k c rw hl => ?_, fun l l' k c rw h' hl hl' hne y hy => ?_⟩
 · rcases mem hp with rfl | rfl
   · obtain ⟨ob, h1, h2⟩ := row_rel (g := g) (X := encL (((cap : Nat) : Int) :: ps.map (·.1))) (c := c) (b := some b) hw
     exact ⟨r, ob, rfl, h1, h2⟩
   · exact ⟨b, _, rfl, hb, _, rfl⟩
 · rcases mem hp with rfl | rfl
   · cases hrw
   · rcases mem hq with rfl | rfl
     · have : b = r := Option.some.inj he
       rw [this] at hFb; exact absurd hFb hF
     · rfl
 · rcases mem hp with rfl | rfl
   · cases hrw
   · cases hy; exact hFb
 · rcases mem (ofP_mem hl) with e | e
   · cases e
   · cases e
     exact ⟨b, _, rfl, rfl, fam4 h, fun _ y hy => .inr hy⟩
 · rcases mem (ofP_mem hl) with e | e
   · cases e
   · cases e
     rcases mem (ofP_mem hl') with e' | e'
     · cases e'
       exact ⟨fun e => by have : r = y := Option.some.inj e; rw [<- this] at hy; exact hF hy, fun e => by cases e⟩
     · cases e'; exact absurd rfl hne
theorem start_N (g : Nat -> Int) (z m o : Int) (r c : Nat) : HRel ⟨w, F, GRb⟩ (envL g 0 z m o none r c) (ofP []) 5 w := by
 refine HRel.ownedB [] (fun p hp => by cases hp) (fun p hp => by cases hp) (fun p hp => by cases hp) envL_fresh FR_ok ⟨fun _ _ => False, ⟨fun l k c rw hl => ?_, fun l l' k c rw h' hl => ?_⟩⟩
 · have := ofP_mem hl; cases this
 · have := ofP_mem hl; cases this
theorem start_NW (g : Nat -> Int) {z : Int} {n o r : Nat} (c : Nat) (hw : WordsAt w r o n z) : HRel ⟨w, F, GRb⟩ (envL g 0 z n o none r c) (ofP [(1, rowW)]) 5 w := by
 refine HRel.ownedB [(1, rowW)] (fun p hp => ?_) (fun p hp q hq hrw => ?_) (fun p hp hrw => ?_) envL_fresh FR_ok ⟨fun _ _ => False, fun l k c rw hl => ?_, fun l l' k c rw h' hl => ?_⟩
 · rw [List.mem_singleton.1 hp]
   obtain ⟨ob, h1, h2⟩ := row_rel (g := g) (X := 0) (c := c) (b := none) hw
   exact ⟨r, ob, rfl, h1, h2⟩
 · rw [List.mem_singleton.1 hp] at hrw; cases hrw
 · rw [List.mem_singleton.1 hp] at hrw; cases hrw
 · have e := List.mem_singleton.1 (ofP_mem hl); cases e
 · have e := List.mem_singleton.1 (ofP_mem hl); cases e
theorem arg_B {ps : Rb} {cap b : Nat} (g : Nat -> Int) (z m o : Int) (r c : Nat) : (AVal.agg (refV Lb)).den (envL g (encL (((cap : Nat) : Int) :: ps.map (·.1))) z m o (some b) r c) = some (.agg (refVals g (.slice (some ⟨b, 0, none⟩) ps.length cap)).toArray) := by
 have hL : Lb.den (envL g (encL (((cap : Nat) : Int) :: ps.map (·.1))) z m o (some b) r c) = some (.slice (some ⟨b, 0, none⟩) ps.length cap) := by
  refine den_slice_of rfl rfl ?_ ?_
  · rw [nbT, fnD (x := encL (((cap : Nat) : Int) :: ps.map (·.1))) rfl (litD 0)]
    show some (fNb _ 0) = _
    rw [fNb, decL_encL]; simp
  · rw [capT, unD (x := encL (((cap : Nat) : Int) :: ps.map (·.1))) rfl (litD 0)]
    show some ((decL _).getD ((0 : Int).toNat) 0) = _
    rw [decL_encL]; rfl
 rw [refV_den hL, refVals_congr (g' := g) fun i hi => ?_]
 show (if 200 + i = 219 then _ else if 200 + i = 222 then _ else if 200 + i = 223 then _ else if 200 + i = 224 then _ else g (200 + i - 200)) = _
 rw [if_neg (by omega), if_neg (by omega), if_neg (by omega), if_neg (by omega), Nat.add_sub_cancel_left]
theorem arg_N (g : Nat -> Int) (z m o : Int) (r c : Nat) : (AVal.agg (refV .sliceNil)).den (envL g 0 z m o none r c) = some (.agg (refVals g (.slice none 0 0)).toArray) := by
 rw [refV_den (L := .sliceNil) (v := .slice none 0 0) rfl, refVals_congr (g' := g) fun i hi => ?_]
 show (if 200 + i = 219 then _ else if 200 + i = 222 then _ else if 200 + i = 223 then _ else if 200 + i = 224 then _ else g (200 + i - 200)) = _
 rw [if_neg (by omega), if_neg (by omega), if_neg (by omega), if_neg (by omega), Nat.add_sub_cancel_left]
theorem call_B {k : Kw} {ρ : Env} {xs : List Value} {X : Int} {n : Nat} (hk : RunB k) (hx : AVal.denL ρ [.agg (refV Lb), wK k] = some xs) (hh : HRel ⟨w, F, GRb⟩ ρ (ofP (hK true k)) 5 w) (hc : CRel ρ (cK k)) (hX : ρ.I 219 = X) (hn : (decL X).tail.length = n) :
 Calls Try.prog 47 xs.toArray w (fun e w' => ∃ x, e = .returned x /\ RL w F n x w') := by
 obtain ⟨ls, hls, hall⟩ := Option.map_eq_some_iff.1 hk
 refine calls_sumsE (β := ⟨w, F, GRb⟩) (g := gL) (L := []) (Rs := eL) (Ts := [tL]) (pl := true) (n := 4000) (c := Try.f47.body.getD .ret) (cs := cK k) noCount noExt spL_ok follows Try.func47 rfl (by rw [hls]; rfl) hx hh hc fun s hs => ?_
 have hk := List.all_eq_true.1 hall s hs
 unfold okB at hk
 split at hk
 · rename_i cs σ
   split at hk
   · rename_i t ht
     obtain rfl := IT.beq_eq hk
     refine doneR (T := tB) rfl fun ρ' hle hG => ⟨hG, CRel_nil.2 trivial, fun x w' r => end_B r ?_⟩
     have : (Go.Vm.Sub.app σ ρ').I 249 = X := by
      simp only [Go.Vm.Sub.app, ht]
      show (some (ρ'.I 219)).getD 0 = X
      rw [hle.i, hX]; rfl
     rw [this]; omega
   · cases hk
 · cases hk
theorem call_N {k : Kw} {ρ : Env} {xs : List Value} {n : Nat} (hk : RunN k) (hx : AVal.denL ρ [.agg (refV .sliceNil), wK k] = some xs) (hh : HRel ⟨w, F, GRb⟩ ρ (ofP (hK false k)) 5 w) (hc : CRel ρ (cK k)) :
 Calls Try.prog 47 xs.toArray w (fun e w' => ∃ x, e = .returned x /\ RL w F n x w') := by
 obtain ⟨ls, hls, hall⟩ := Option.map_eq_some_iff.1 hk
 refine calls_sumsE (β := ⟨w, F, GRb⟩) (g := gL) (L := []) (Rs := eL) (Ts := [tL]) (pl := true) (n := 4000) (c := Try.f47.body.getD .ret) (cs := cK k) noCount noExt spL_ok follows Try.func47 rfl (by rw [hls]; rfl) hx hh hc fun s hs => ?_
 have hk := List.all_eq_true.1 hall s hs
 unfold okN at hk
 split at hk
 · exact doneR (T := tN) rfl fun ρ' hle hG => ⟨hG, CRel_nil.2 trivial, fun x w' r => end_N r⟩
 · cases hk
theorem csF_ok {g : Nat -> Int} {X z : Int} {n o r c : Nat} {b : Option Nat} (h1 : 1 <= n) (h2 : n <= 2048) : CRel (envL g X z n o b r c) csF := by
 have d1 : (IT.var 223).den (envL g X z n o b r c) = some (n : Int) := rfl
 exact c1 (eqlF d1 (litD 0) (by omega)) (c1 (gtrF d1 (litD 2048) (by omega)) (c1 (geqT (litD 0) (litD 0) (by omega)) (c1 (geqT d1 (litD 1) (by omega)) (c1 (leqT d1 (litD 2048) (by omega)) (CRel_nil.2 trivial)))))
theorem csG_ok {g : Nat -> Int} {X z : Int} {n o r c : Nat} {b : Option Nat} (h2 : 2048 < n) : CRel (envL g X z n o b r c) (cK .great) := by
 have d1 : (IT.var 223).den (envL g X z n o b r c) = some (n : Int) := rfl
 exact c1 (eqlF d1 (litD 0) (by omega)) (c1 (gtrT d1 (litD 2048) (by omega)) (CRel_nil.2 trivial))
theorem lay_ok_B {ps : Rb} {cap b : Nat} (h : RefIn ps cap w b F) (hn : ps.length <= 1000000) (g : Nat -> Int) {z : Int} {m o r : Nat} (c : Nat) (hF : ¬ F r) (hw : WordsAt w r o m z) (h1 : 1 <= m) (h2 : m <= 2048) :
 Calls Try.prog 47 #[.agg (refVals g (.slice (some ⟨b, 0, none⟩) ps.length cap)).toArray, .slice (some ⟨r, o, none⟩) m c] w (fun e w' => ∃ x, e = .returned x /\ RL w F ps.length x w') := by
 have hX : (decL (encL (((cap : Nat) : Int) :: ps.map (·.1)))).tail.length = ps.length := by rw [decL_encL]; simp
 have hcc : (decL (encL (((cap : Nat) : Int) :: ps.map (·.1)))).getD 0 0 = (cap : Int) := by rw [decL_encL]; rfl
 obtain ⟨cur, fr, _, _, hcap, _⟩ := h.ex
 have hd : (nbT (.var 219)).den (envL g (encL (((cap : Nat) : Int) :: ps.map (·.1))) z m o (some b) r c) = some ((ps.length : Nat) : Int) := by
  rw [nbT, fnD (x := encL (((cap : Nat) : Int) :: ps.map (·.1))) rfl (litD 0)]
  show some (fNb _ 0) = _
  rw [fNb, hX]
 refine calls_sumsO (β := ⟨w, F, GRb⟩) noCount noExt spL_ok follows Try.func47 rfl run_le (xs := [.agg (refVals g (.slice (some ⟨b, 0, none⟩) ps.length cap)).toArray, .slice (some ⟨r, o, none⟩) m c]) (by simp only [AVal.denL, arg_B]; rfl) (start_BW h g c hF hw) (c1 (leqT hd (litD 1000000) (by omega)) (csF_ok h1 h2)) (fun s hs => ?_)
 simp only [sums_le, List.mem_cons, List.not_mem_nil, or_false] at hs
 rcases hs with rfl | rfl
 · refine ⟨trivial, fun ρ' hle hc' T hT hG' => ?_⟩
   have hT : tB = T := Option.some.inj hT
   subst hT
   refine ⟨hG', CRel_nil.2 trivial, fun x w' r => end_B r ?_⟩
   show (decL (ρ'.I 219)).tail.length <= _
   rw [hle.i]
   show (decL (encL (((cap : Nat) : Int) :: ps.map (·.1)))).tail.length <= _
   omega
 · refine ⟨trivial, fun ρ' hle hc' T hT hG' => ?_⟩
   obtain rfl : tL = T := Option.some.inj hT
   have mk : ∀ ρ2 : Env, ρ2.I 219 = ρ'.I 219 -> ρ2.I 220 = 0 -> ρ2.I 223 = ρ'.I 223 -> JL (encL (((cap : Nat) : Int) :: ps.map (·.1))) ps.length ρ2 := fun ρ2 h2' h3 h4 => ⟨by rw [h2', hle.i]; rfl, ⟨0, Nat.zero_le _, h3⟩, m, h1, h2, by rw [h4, hle.i]; rfl⟩
   refine ⟨hG', csL_ok hX hcc hn hcap hG'.1 ?_, fun a w' r => loop_L hX hcc hn hcap _ ?_ _ a w' (.inr rfl) r⟩
   · exact mk _ rfl rfl rfl
   · exact mk _ rfl rfl rfl
theorem lay_ok_N (hE : ∀ y, ¬ F y) (g : Nat -> Int) {z : Int} {m o r : Nat} (c : Nat) (hw : WordsAt w r o m z) (h1 : 1 <= m) (h2 : m <= 2048) :
 Calls Try.prog 47 #[.agg (refVals g (.slice none 0 0)).toArray, .slice (some ⟨r, o, none⟩) m c] w (fun e w' => ∃ x, e = .returned x /\ RL w F 0 x w') := by
 have _ := hE
 refine calls_sumsO (β := ⟨w, F, GRb⟩) noCount noExt spL_ok follows Try.func47 rfl run_ln (xs := [.agg (refVals g (.slice none 0 0)).toArray, .slice (some ⟨r, o, none⟩) m c]) (by simp only [AVal.denL, arg_N]; rfl) (start_NW g c hw) (csF_ok h1 h2) (fun s hs => ?_)
 simp only [sums_ln, List.mem_cons, List.not_mem_nil, or_false] at hs
 rcases hs with rfl | rfl | rfl
 · refine ⟨trivial, fun ρ' hle hc' T hT hG' => ?_⟩
   have hT : tN = T := Option.some.inj hT
   subst hT
   exact ⟨hG', CRel_nil.2 trivial, fun x w' r => end_N r⟩
 all_goals
  refine ⟨trivial, fun ρ' hle hc' T hT hG' => ?_⟩
  have hT : tB = T := Option.some.inj hT
  subst hT
  have h1 : (BT.cmp .eql (nbT (.nv 18)) (.bin .add .i64 (nbT (.nv 16)) (.lit 0))).den ρ' = some true := hc' (_, true) (by repeat (first | exact List.mem_cons_self | apply List.mem_cons_of_mem))
  have h2 : (BT.cmp .eql (nbT (.nv 16)) (.bin .add .i64 (nbT (.nv 10)) (.lit 1))).den ρ' = some true := hc' (_, true) (by repeat (first | exact List.mem_cons_self | apply List.mem_cons_of_mem))
  have h3 : (BT.cmp .eql (nbT (.nv 10)) (.bin .add .i64 (.lit 0) (.lit 0))).den ρ' = some true := hc' (_, true) (by repeat (first | exact List.mem_cons_self | apply List.mem_cons_of_mem))
  obtain ⟨q, hq1, hq2⟩ := grown (n := 0) (i := 0) hG'.1 (Nat.le_refl _) (by omega) rfl rfl h1 h2 h3
  refine ⟨hG', CRel_nil.2 trivial, fun x w' r => end_B r ?_⟩
  show (decL (((ρ'.N 18).map fun k => ((k : Nat) : Int)).getD 0)).tail.length <= _
  rw [hq1]
  exact Nat.le_of_eq hq2
theorem lay47 {L v : Value} {n : Nat} (s : LSt w L F n) (hn : n <= 1000000) (hv : Words w F v) (g : Nat -> Int) : Calls Try.prog 47 #[.agg (refVals g L).toArray, v] w (fun e w' => ∃ x, e = .returned x /\ RL w F n x w') := by
 rcases s with ⟨rfl, rfl, hE⟩ | ⟨b, cap, ps, rfl, rfl, hR⟩
 · rcases hv with ⟨a, c, rfl, ha, hac⟩ | ⟨r, o, m, c, z, rfl, hm, hF, hw⟩
   · cases a with
     | none =>
      obtain rfl := hac rfl
      exact call_N rn_nil (xs := [.agg (refVals g (.slice none 0 0)).toArray, .slice none 0 0]) (by simp only [AVal.denL, arg_N g 0 0 0 0 0]; rfl) (start_N g 0 0 0 0 0) (CRel_nil.2 trivial)
     | some p =>
      obtain ⟨k, hk⟩ := slX_code (ha p rfl)
      rw [hk]
      obtain ⟨pb, po, ps⟩ := p
      exact call_N rn_zero (xs := [.agg (refVals g (.slice none 0 0)).toArray, slX pb po 0 k]) (by simp only [AVal.denL, arg_N g 0 0 (po : Int) pb k]; rfl) (start_N g 0 0 (po : Int) pb k) (CRel_nil.2 trivial)
   · by_cases h2 : m <= 2048
     · exact lay_ok_N hE g c hw hm h2
     · exact call_N rn_great (xs := [.agg (refVals g (.slice none 0 0)).toArray, .slice (some ⟨r, o, none⟩) m c]) (by simp only [AVal.denL, arg_N g z (m : Int) (o : Int) r c]; rfl) (start_NW g c hw) (csG_ok (by omega))
 · have hX : (decL (encL (((cap : Nat) : Int) :: ps.map (·.1)))).tail.length = ps.length := by rw [decL_encL]; simp
   rcases hv with ⟨a, c, rfl, ha, hac⟩ | ⟨r, o, m, c, z, rfl, hm, hF, hw⟩
   · cases a with
     | none =>
      obtain rfl := hac rfl
      exact call_B rb_nil (xs := [.agg (refVals g (.slice (some ⟨b, 0, none⟩) ps.length cap)).toArray, .slice none 0 0]) (by simp only [AVal.denL, arg_B g 0 0 0 0 0]; rfl) (start_B hR g 0 0 0 0 0) (CRel_nil.2 trivial) rfl hX
     | some p =>
      obtain ⟨k, hk⟩ := slX_code (ha p rfl)
      rw [hk]
      obtain ⟨pb, po, ps'⟩ := p
      exact call_B rb_zero (xs := [.agg (refVals g (.slice (some ⟨b, 0, none⟩) ps.length cap)).toArray, slX pb po 0 k]) (by simp only [AVal.denL, arg_B g 0 0 (po : Int) pb k]; rfl) (start_B hR g 0 0 (po : Int) pb k) (CRel_nil.2 trivial) rfl hX
   · by_cases h2 : m <= 2048
     · exact lay_ok_B hR hn g c hF hw hm h2
     · exact call_B rb_great (xs := [.agg (refVals g (.slice (some ⟨b, 0, none⟩) ps.length cap)).toArray, .slice (some ⟨r, o, none⟩) m c]) (by simp only [AVal.denL, arg_B g z (m : Int) (o : Int) r c]; rfl) (start_BW hR g c hF hw) (csG_ok (by omega)) rfl hX
end Rf
end Go.Proofs.Ytighjgmgpphohaa
end
section
namespace Go.Vm
section
variable {β : Base} {ρ : Env} {H : Heap} {nl : Nat} {w : World}
theorem HRel.bigMove (h : HRel β ρ H nl w) {Fp : Nat -> Nat -> Prop} (hB : BigAt ρ H β.dom w Fp) {l k : Nat} {c : IT} (hl : H.get l = some ⟨.big k c, true⟩) :
 ∃ b x, ρ.N l = some b /\ c.den ρ = some x /\ fam k x w b (Fp l) /\ (∀ l' k' y, H.get l' = some k' -> l ≠ l' -> ρ.N l' = some y -> ¬ Fp l y) ∧
  (∀ w' F', BigStep w w' (Fp l) F' -> ∀ H' : Heap, (∀ l1 k1, H'.get l1 = some k1 -> l1 ≠ l /\ H.get l1 = some k1) -> HRel β ρ H' nl w') ∧
  ∀ n w' k' c' x' b' F', BigStep w w' (Fp l) F' -> fam k' x' w' b' F' -> c'.den (ρ.put nl n) = some x' -> ∀ H' : Heap, (∀ l1 k1, H'.get l1 = some k1 -> (l1 = nl + 1 /\ k1 = ⟨.big k' c', true⟩) ∨ (l1 ≠ l /\ H.get l1 = some k1)) -> HRel β ((ρ.put nl n).put (nl + 1) b') H' (nl + 2) w' := by
 obtain ⟨b, x, hN, hx, hf, h0⟩ := hB.ok _ _ _ _ hl
 have h0 := h0 rfl
 have hlt : ∀ {l1 k1 b1}, H.get l1 = some k1 -> ρ.N l1 = some b1 -> b1 < w.heap.size := fun h1 h2 => h.lt h1 h2
 have apart1 : ∀ {l1 k1}, H.get l1 = some k1 -> l1 ≠ l -> ∀ {y}, ρ.N l1 = some y -> ¬ Fp l y := fun {_ _} h1 hne {y} hy hF => (hB.apart _ _ _ _ _ _ hl h1 (Ne.symm hne) y hF).1 hy
 have old : ∀ {l1 k1 c1 rw1}, H.get l1 = some ⟨.big k1 c1, rw1⟩ -> ∀ {y}, Fp l1 y -> y < w.heap.size := fun {_ _ _ _} h1 {y} hy => by
  obtain ⟨_, _, _, _, e3, _⟩ := hB.ok _ _ _ _ h1
  exact fam_lt e3 hy
 have fr : ∀ {w' F'}, BigStep w w' (Fp l) F' -> ∀ y, y < β.w0.heap.size -> ¬ β.own y -> w'.heap[y]? = β.w0.heap[y]? := fun {w' F'} s y hy hn => by
  rw [s.same y (Nat.lt_of_lt_of_le hy h.size) (fun hF => (h0 y hF).elim (fun e => by omega) hn)]
  exact h.frame y hy hn
 refine ⟨b, x, hN, hx, hf, fun l' k' y hl' hne hy hF => (hB.apart _ _ _ _ _ _ hl hl' hne y hF).1 hy, fun w' F' s H' hs => ?_, fun n w' k' c' x' b' F' s hf' hx' H' hs => ?_⟩
 · refine ⟨fun l1 k1 h1 => ?_, fun l1 l2 k1 k2 h1 h2 hr he => h.inj _ _ _ _ (hs _ _ h1).2 (hs _ _ h2).2 hr he, fun l1 k1 b1 h1 hr hb1 => h.own _ _ _ (hs _ _ h1).2 hr hb1, h.fresh, trivial, Nat.le_trans h.size s.size, fr s, s.tape.trans h.tape, s.os.trans h.os, s.out.trans h.out, h.g, Fp, ⟨fun l1 k1 c1 rw1 h1 => ?_, fun l1 l2 k1 c1 rw1 h' h1 h2 hne y hy => hB.apart _ _ _ _ _ _ (hs _ _ h1).2 (hs _ _ h2).2 hne y hy⟩⟩
   · obtain ⟨hne, g⟩ := hs _ _ h1
     obtain ⟨b1, o, hb1, ho, hk⟩ := h.blk l1 k1 g
     exact ⟨b1, o, hb1, by rw [s.same b1 (hlt g hb1) (apart1 g hne hb1)]; exact ho, hk⟩
   · obtain ⟨hne, g⟩ := hs _ _ h1
     obtain ⟨b1, x1, e1, e2, e3, e4⟩ := hB.ok _ _ _ _ g
     exact ⟨b1, x1, e1, e2, fam_local e3 fun y hy => s.same y (fam_lt e3 hy) (fun hF => (hB.apart _ _ _ _ _ _ hl g (Ne.symm hne) y hF).2 rfl hy), e4⟩
 · have hn := (h.num n).num b'
   have hle1 : ρ.Le (ρ.put nl n) := Env.le_put (h.fresh nl (Nat.le_refl _))
   have hle2 : (ρ.put nl n).Le ((ρ.put nl n).put (nl + 1) b') := Env.le_put ((h.num n).fresh (nl + 1) (Nat.le_refl _))
   have hle := hle1.trans hle2
   have hnl : ∀ {l1 k1}, H.get l1 = some k1 -> l1 < nl := fun {l1 k1} g1 => by
    obtain ⟨b1, _, hb1, _⟩ := h.blk l1 k1 g1
    rcases Nat.lt_or_ge l1 nl with h1 | h1
    · exact h1
    · rw [h.fresh l1 h1] at hb1; cases hb1
   have hNo : ∀ {l1 k1}, H.get l1 = some k1 -> ((ρ.put nl n).put (nl + 1) b').N l1 = ρ.N l1 := fun {l1 k1} g1 => by
    have := hnl g1
    rw [Env.put_other _ _ (by omega), Env.put_other _ _ (by omega)]
   have hNn : ((ρ.put nl n).put (nl + 1) b').N (nl + 1) = some b' := Env.put_same ..
   have newF : ∀ {y}, F' y -> Fp l y ∨ w.heap.size <= y := fun {y} hy => s.sub y hy
   have hb' : F' b' := fam_root hf'
   have other : ∀ {l1 k1}, H.get l1 = some k1 -> l1 ≠ l -> ∀ {y}, F' y -> ρ.N l1 ≠ some y := fun {l1 k1} g hne {y} hy e => by
    rcases newF hy with h1 | h1
    · exact apart1 g hne e h1
    · have := hlt g e; omega
   refine ⟨fun l1 k1 h1 => ?_, fun l1 l2 k1 k2 h1 h2 hr he => ?_, fun l1 k1 b1 h1 hr hb1 => ?_, hn.fresh, trivial, Nat.le_trans h.size s.size, fr s, s.tape.trans h.tape, s.os.trans h.os, s.out.trans h.out, hn.g, fun l1 => if l1 = nl + 1 then F' else Fp l1, ⟨fun l1 k1 c1 rw1 h1 => ?_, fun l1 l2 k1 c1 rw1 h' h1 h2 hne y hy => ?_⟩⟩
   · rcases hs _ _ h1 with ⟨rfl, rfl⟩ | ⟨hne, g⟩
     · exact ⟨b', w'.heap[b']'(fam_lt hf' hb'), hNn, Array.getElem?_eq_getElem _, x', IT.den_mono hle2 hx'⟩
     · obtain ⟨b1, o, hb1, ho, hk⟩ := h.blk l1 k1 g
       exact ⟨b1, o, (hNo g).trans hb1, by rw [s.same b1 (hlt g hb1) (apart1 g hne hb1)]; exact ho, ABlk.rel_mono hle hk⟩
   · rcases hs _ _ h1 with ⟨rfl, rfl⟩ | ⟨n1, g1⟩
     · rcases hs _ _ h2 with ⟨rfl, rfl⟩ | ⟨n2, g2⟩
       · rfl
       · rw [hNn, hNo g2] at he
         exact absurd he.symm (other g2 n2 hb')
     · rcases hs _ _ h2 with ⟨rfl, rfl⟩ | ⟨n2, g2⟩
       · rw [hNn, hNo g1] at he
         exact absurd he (other g1 n1 hb')
       · rw [hNo g1, hNo g2] at he
         exact h.inj _ _ _ _ g1 g2 hr he
   · rcases hs _ _ h1 with ⟨rfl, rfl⟩ | ⟨n1, g1⟩
     · rw [hNn] at hb1; cases hb1
       exact (newF hb').elim (fun h1 => h0 _ h1) fun h1 => .inl (Nat.le_trans h.size h1)
     · rw [hNo g1] at hb1
       exact h.own _ _ _ g1 hr hb1
   · rcases hs _ _ h1 with ⟨rfl, e⟩ | ⟨hne, g⟩
     · cases e
       simp only [if_true]
       exact ⟨b', x', hNn, IT.den_mono hle2 hx', hf', fun _ y hy => (newF hy).elim (fun h1 => h0 _ h1) fun h1 => .inl (Nat.le_trans h.size h1)⟩
     · have := hnl g
       rw [if_neg (by omega)]
       obtain ⟨b1, x1, e1, e2, e3, e4⟩ := hB.ok _ _ _ _ g
       exact ⟨b1, x1, (hNo g).trans e1, IT.den_mono hle e2, fam_local e3 fun y hy => s.same y (fam_lt e3 hy) (fun hF => (hB.apart _ _ _ _ _ _ hl g (Ne.symm hne) y hF).2 rfl hy), e4⟩
   · rcases hs _ _ h1 with ⟨rfl, e⟩ | ⟨n1, g1⟩
     · rcases hs _ _ h2 with ⟨rfl, e'⟩ | ⟨n2, g2⟩
       · exact absurd rfl hne
       · simp only [if_true] at hy
         have := hnl g2
         rw [if_neg (by omega), hNo g2]
         refine ⟨other g2 n2 hy, fun hnb hy2 => ?_⟩
         obtain ⟨n', c2, hk⟩ := ABlk.nb_of hnb
         obtain ⟨hk', r'⟩ := h'
         simp only at hk; subst hk
         rcases newF hy with h1 | h1
         · exact (hB.apart _ _ _ _ _ _ hl g2 (Ne.symm n2) y h1).2 hnb hy2
         · have := old g2 hy2; omega
     · have hq := hnl g1
       simp only [show (l1 = nl + 1) = False from by simp; omega, if_false] at hy
       rcases hs _ _ h2 with ⟨rfl, rfl⟩ | ⟨n2, g2⟩
       · rw [hNn]
         refine ⟨fun e => ?_, fun _ hy2 => ?_⟩
         · cases e
           rcases newF hb' with h1 | h1
           · exact (hB.apart _ _ _ _ _ _ hl g1 (Ne.symm n1) _ h1).2 rfl hy
           · have := old g1 hy; omega
         · simp only [if_true] at hy2
           rcases newF hy2 with h1 | h1
           · exact (hB.apart _ _ _ _ _ _ hl g1 (Ne.symm n1) _ h1).2 rfl hy
           · have := old g1 hy; omega
       · have := hnl g2
         rw [if_neg (by omega), hNo g2]
         exact hB.apart _ _ _ _ _ _ g1 g2 hne y hy
end
end Go.Vm
end
section
namespace Go.Proofs.Ytighjgmgpphohaa
open Go.Vm Go.Vm.Le Go.Vm.Mb
namespace Rf
open Ar (iV uV pT pT_den okR Words WordsAt wordsOk words_of)
def refP (nl : Nat) (L : AVal) : List AVal := [.int .i64 (pT 0 nl), .int .i64 (pT 1 nl), .int .i64 (pT 2 nl), .int .i64 (pT 3 nl), .int .u64 (pT 4 nl), .int .u64 (pT 5 nl), .int .u64 (pT 6 nl), .int .u64 (pT 7 nl), .int .u64 (pT 8 nl), .int .u64 (pT 9 nl), .int .u64 (pT 10 nl), .int .u64 (pT 11 nl), .int .u64 (pT 12 nl), L, .int .i64 (pT 13 nl), .int .i64 (pT 14 nl), .int .i64 (pT 15 nl), .int .i64 (pT 16 nl), .int .i64 (pT 17 nl), .int .i64 (pT 18 nl)]
def ansR (nl : Nat) (L : AVal) : AVal := .tuple [.agg (refP nl L), .int .u64 (pT 19 nl), .int .i64 (pT 20 nl)]
def layLs (n : IT) (H : Heap) (nl : Nat) (cs : Cs) : List Leaf :=
 [.ret (ansR nl .sliceNil) H (nl + 1) cs,
  .ret (ansR nl (.slice (nl + 2) (.lit 0) (nbT (.nv (nl + 1))) (capT (.nv (nl + 1))))) (H.set (nl + 2) ⟨.big 4 (.nv (nl + 1)), true⟩) (nl + 3) ((.cmp .leq (nbT (.nv (nl + 1))) (.bin .add .i64 n (.lit 1)), true) :: cs)]
def spLayR : SpG := fun args H nl cs => match args with
 | [.agg vs, v] => cond (wordsOk H cs v) (match refOf vs with
  | some .sliceNil => some (layLs (.lit 0) H nl cs)
  | some (.slice l (.lit (.ofNat 0)) n cp) => match H.get l with
   | some ⟨.big 4 c, true⟩ => cond (IT.beq n (nbT c) && (IT.beq cp (capT c) && ubLe cs n 1000000)) (some (layLs n (H.del l) nl cs)) none
   | _ => none
  | _ => none) none
 | _ => none
section
variable {β : Base} {ρ : Env} {H : Heap} {nl : Nat} {w : World}
theorem words_in2 (hh : HRel β ρ H nl w) {cs : Cs} (hc : CRel ρ cs) {v : AVal} {vv : Value} (hv : v.den ρ = some vv) (hok : wordsOk H cs v = true) {F : Nat -> Prop} (hF : ∀ r u el m o q rw y, H.get r = some ⟨.arr u [.u64] el m o q, rw⟩ -> ρ.N r = some y -> ¬ F y) : Words w F vv := by
 unfold wordsOk at hok
 split at hok
 · obtain rfl := den_sliceNil hv
   exact .inl ⟨none, 0, rfl, (fun p e => by cases e), fun _ => rfl⟩
 · obtain ⟨b, o, n, cap, rfl, _, _, hn, _⟩ := den_slx hv
   obtain rfl : n = 0 := by
    have : some (Int.ofNat 0) = some (Int.ofNat n) := hn
    exact (Int.ofNat.inj (Option.some.inj this)).symm
   exact .inl ⟨some ⟨b, o, slS 0 cap⟩, slK 0 cap, rfl, (fun p e => by cases e; exact slX_back b o cap), fun e => by cases e⟩
 · rename_i r off n cp
   split at hok
   · rename_i u el m o r1 rw1 hg
     simp only [Bool.and_eq_true] at hok
     obtain ⟨q1, q2, q3⟩ := hok
     obtain ⟨b, k, q, cap, z, rfl, hn, _, hw⟩ := words_of hh hg hv (IT.beq_eq q1) (IT.beq_eq q2)
     obtain ⟨b', o', n', c', he, hN, _⟩ := den_slice hv
     obtain rfl : b = b' := by
      simp only [Value.slice.injEq, Option.some.injEq, Addr.mk.injEq] at he
      exact he.1.1
     have h1 := isB_ok q3 hc
     rw [cmpD hn (litD 1)] at h1
     simp only [intCmp, Option.some.injEq, decide_eq_true_eq] at h1
     exact .inr ⟨b, q, k, cap, z, rfl, by omega, hF r _ _ _ _ _ _ b hg hN, hw⟩
   · cases hok
 · cases hok
theorem ansR_den {ρ : Env} {L : AVal} {v : Value} {g : Nat -> Int} {z0 z1 : Int} (hN : ρ.N nl = some (encN ((List.range 19).map g ++ [z0, z1]))) (h : L.den ρ = some v) : (ansR nl L).den ρ = some (.tuple #[.agg (refVals g v).toArray, .int .u64 z0, .int .i64 z1]) := by
 have e : ∀ i : Nat, (pT (i : Int) nl).den ρ = some (((List.range 19).map g ++ [z0, z1]).getD i 0) := pT_den hN
 have e0 := e 0; have e1 := e 1; have e2 := e 2; have e3 := e 3; have e4 := e 4; have e5 := e 5; have e6 := e 6; have e7 := e 7; have e8 := e 8; have e9 := e 9; have e10 := e 10; have e11 := e 11; have e12 := e 12; have e13 := e 13; have e14 := e 14; have e15 := e 15; have e16 := e 16; have e17 := e 17; have e18 := e 18; have e19 := e 19; have e20 := e 20
 have e0 : (pT 0 nl).den ρ = some (g 0) := e0
 have e1 : (pT 1 nl).den ρ = some (g 1) := e1
 have e2 : (pT 2 nl).den ρ = some (g 2) := e2
 have e3 : (pT 3 nl).den ρ = some (g 3) := e3
 have e4 : (pT 4 nl).den ρ = some (g 4) := e4
 have e5 : (pT 5 nl).den ρ = some (g 5) := e5
 have e6 : (pT 6 nl).den ρ = some (g 6) := e6
 have e7 : (pT 7 nl).den ρ = some (g 7) := e7
 have e8 : (pT 8 nl).den ρ = some (g 8) := e8
 have e9 : (pT 9 nl).den ρ = some (g 9) := e9
 have e10 : (pT 10 nl).den ρ = some (g 10) := e10
 have e11 : (pT 11 nl).den ρ = some (g 11) := e11
 have e12 : (pT 12 nl).den ρ = some (g 12) := e12
 have e13 : (pT 13 nl).den ρ = some (g 13) := e13
 have e14 : (pT 14 nl).den ρ = some (g 14) := e14
 have e15 : (pT 15 nl).den ρ = some (g 15) := e15
 have e16 : (pT 16 nl).den ρ = some (g 16) := e16
 have e17 : (pT 17 nl).den ρ = some (g 17) := e17
 have e18 : (pT 18 nl).den ρ = some (g 18) := e18
 have e19 : (pT 19 nl).den ρ = some z0 := e19
 have e20 : (pT 20 nl).den ρ = some z1 := e20
 simp only [ansR, refP, refVals, AVal.den, AVal.denL, e0, e1, e2, e3, e4, e5, e6, e7, e8, e9, e10, e11, e12, e13, e14, e15, e16, e17, e18, e19, e20, h, Option.map_some]
theorem layLs_ok (hG : ∀ I B S V F, β.G I B S V F -> GRb I B S V F) (hh : HRel β ρ H nl w) {cs : Cs} (hc : CRel ρ cs) {n : IT} {m : Nat} (hm : n.den ρ = some (m : Int)) (hmb : m <= 1000000) {F : Nat -> Prop} {H0 : Heap}
 (drop : ∀ {w' F' q}, BigStep w w' F F' -> HRel β (ρ.put nl q) H0 (nl + 1) w')
 (move : ∀ {w' F' q n c' x' b'}, BigStep w w' F F' -> fam 4 x' w' b' F' -> c'.den ((ρ.put nl q).put (nl + 1) n) = some x' -> HRel β (((ρ.put nl q).put (nl + 1) n).put (nl + 2) b') (H0.set (nl + 2) ⟨.big 4 c', true⟩) (nl + 3) w')
 {x : Value} {w' : World} (hr : RL w F m x w') : ∃ u H' nl' cs' ρ', Leaf.ret u H' nl' cs' ∈ layLs n H0 nl cs /\ ρ.Le ρ' /\ u.den ρ' = some x /\ HRel β ρ' H' nl' w' /\ CRel ρ' cs' := by
 obtain ⟨g', L', z0, z1, F', n', rfl, hL, hn', hst⟩ := hr
 obtain ⟨q, hq⟩ : ∃ q, q = encN ((List.range 19).map g' ++ [z0, z1]) := ⟨_, rfl⟩
 have l1 : ρ.Le (ρ.put nl q) := Env.le_put (hh.fresh nl (Nat.le_refl _))
 have hN1 : (ρ.put nl q).N nl = some (encN ((List.range 19).map g' ++ [z0, z1])) := by rw [<- hq]; exact Env.put_same ..
 rcases hL with ⟨rfl, rfl, _⟩ | ⟨b, cap, ps, rfl, rfl, hR⟩
 · exact ⟨_, _, _, _, _, List.mem_cons_self, l1, ansR_den hN1 rfl, drop hst, hc.mono l1⟩
 · obtain ⟨k, hk⟩ : ∃ k, k = encN (((cap : Nat) : Int) :: ps.map (·.1)) := ⟨_, rfl⟩
   have h1 := hh.num q
   have l2 : (ρ.put nl q).Le ((ρ.put nl q).put (nl + 1) k) := Env.le_put (h1.fresh _ (Nat.le_refl _))
   have l3 : ((ρ.put nl q).put (nl + 1) k).Le (((ρ.put nl q).put (nl + 1) k).put (nl + 2) b) := Env.le_put ((h1.num k).fresh _ (Nat.le_refl _))
   have hx : (IT.nv (nl + 1)).den ((ρ.put nl q).put (nl + 1) k) = some (encL (((cap : Nat) : Int) :: ps.map (·.1))) := by rw [nvD (Env.put_same ..), hk]; rfl
   have hle := (l1.trans l2).trans l3
   have g93 : (((ρ.put nl q).put (nl + 1) k).put (nl + 2) b).F 93 = fNb := by rw [hle.f]; exact (hG _ _ _ _ _ hh.g).1
   have dn : (nbT (.nv (nl + 1))).den (((ρ.put nl q).put (nl + 1) k).put (nl + 2) b) = some ((ps.length : Nat) : Int) := by
    rw [nbT, fnD (IT.den_mono l3 hx) (litD 0), g93, fNb, decL_encL]; simp
   have dc : (capT (.nv (nl + 1))).den (((ρ.put nl q).put (nl + 1) k).put (nl + 2) b) = some (cap : Int) := by
    rw [capT, unD (IT.den_mono l3 hx) (litD 0)]
    show some ((decL _).getD ((0 : Int).toNat) 0) = _
    rw [decL_encL]; rfl
   refine ⟨_, _, _, _, _, List.mem_cons_of_mem _ List.mem_cons_self, hle, ansR_den ((l2.trans l3).n _ _ hN1) (den_slice_of (Env.put_same ..) rfl dn dc), move hst (fam4 hR) hx, c1 (leqT (y := ((m + 1 : Nat) : Int)) dn ?_ (by omega)) (hc.mono hle)⟩
   rw [binD (IT.den_mono hle hm) (litD 1)]
   show some (IntKind.i64.wrap _) = _
   rw [wrapI (by omega) (by omega)]; rfl
theorem spLayR_ok (hG : ∀ I B S V F, β.G I B S V F -> GRb I B S V F) : SpGOk Try.prog β 47 spLayR := by
 intro args H nl cs ls ρ w xs hr hx hh hc
 unfold spLayR at hr
 split at hr
 rotate_left
 · cases hr
 rename_i vs v
 cases hb : wordsOk H cs v with
 | false => rw [hb] at hr; cases hr
 | true =>
  rw [hb] at hr; simp only [cond_true] at hr
  obtain ⟨x1, r1, e1, h1, rfl⟩ := denL_cons hx
  obtain ⟨x2, r2, e2, h2, rfl⟩ := denL_cons h1
  cases h2
  simp only [AVal.den] at e1
  obtain ⟨ys, hys, rfl⟩ := Option.map_eq_some_iff.1 e1
  split at hr
  · rename_i hro
    cases hr
    obtain ⟨g, vL, hL, rfl⟩ := refOf_den hro hys
    obtain rfl := den_sliceNil hL
    have hW := words_in2 hh hc e2 hb (F := fun _ => False) fun _ _ _ _ _ _ _ _ _ _ => id
    refine (lay47 (F := fun _ => False) (n := 0) (.inl ⟨rfl, rfl, fun _ => id⟩) (by omega) hW g).mono fun e w' ⟨x, he, hr'⟩ => ⟨x, he, layLs_ok hG hh hc rfl (by omega) (fun {w' F' q} hst => ?_) (fun {w' F' q n c' x' b'} hst hf hcx => ?_) hr'⟩
    · have hf : Framed w w' := ⟨hst.size, fun y hy => hst.same y hy id, hst.tape, hst.os, hst.out⟩
      exact (hh.num q).framed hf
    · have hf' : Framed w w' := ⟨hst.size, fun y hy => hst.same y hy id, hst.tape, hst.os, hst.out⟩
      exact ((hh.num q).num n).bigNew hf' hf (fun y hy => (hst.sub y hy).elim False.elim id) hcx
  · rename_i l n cp hro
    split at hr
    rotate_left
    · cases hr
    rename_i c hl
    cases hb2 : (IT.beq n (nbT c) && (IT.beq cp (capT c) && ubLe cs n 1000000)) with
    | false => rw [hb2] at hr; cases hr
    | true =>
     rw [hb2] at hr; cases hr
     simp only [Bool.and_eq_true] at hb2
     obtain ⟨hb1, hb2, hb3⟩ := hb2
     obtain rfl := IT.beq_eq hb1
     obtain rfl := IT.beq_eq hb2
     obtain ⟨g, v, hL, rfl⟩ := refOf_den hro hys
     obtain ⟨Fp, hB⟩ := hh.big
     obtain ⟨b, x, hN, hcx, hfam, hap, hdrop, _⟩ := hh.bigMove hB hl
     obtain ⟨ps, cap, rfl, hR⟩ := fam4_inv hfam
     obtain ⟨b', o, n', cp', rfl, hN', ho, hn', hcp'⟩ := den_slice hL
     rw [hN] at hN'; cases hN'
     obtain rfl : o = 0 := (Int.ofNat.inj (Option.some.inj ho)).symm
     obtain ⟨g93, _⟩ := hG _ _ _ _ _ hh.g
     have f1 : (nbT c).den ρ = some ((ps.length : Nat) : Int) := by
      rw [nbT, fnD hcx (litD 0), g93, fNb, decL_encL]; simp
     have f2 : (capT c).den ρ = some (cap : Int) := by
      rw [capT, unD hcx (litD 0)]
      show some ((decL _).getD ((0 : Int).toNat) 0) = _
      rw [decL_encL]; rfl
     obtain rfl : n' = ps.length := Int.ofNat.inj (Option.some.inj (hn'.symm.trans f1))
     obtain rfl : cp' = cap := Int.ofNat.inj (Option.some.inj (hcp'.symm.trans f2))
     have hub := ubLe_ok hb3 hc f1
     have hW := words_in2 hh hc e2 hb (F := Fp l) fun r u el m o q rw y hg hNy => hap r _ y hg (fun e => by subst e; rw [hl] at hg; cases hg) hNy
     refine (lay47 (F := Fp l) (.inr ⟨b, cp', ps, rfl, rfl, hR⟩) (by omega) hW g).mono fun e w' ⟨x, he, hr'⟩ => ⟨x, he, layLs_ok hG hh hc f1 (by omega) (fun {w' F' q} hst => ?_) (fun {w' F' q n c' x' b'} hst hf hcx => ?_) hr'⟩
     · exact (hdrop w' F' hst (H.del l) fun l1 k1 g1 => Tr.get_del g1).num q
     · have hnl : ∀ {l1 k1}, H.get l1 = some k1 -> l1 ≠ nl := fun {l1 k1} g1 e => by
        obtain ⟨b1, _, hb1, _⟩ := hh.blk l1 k1 g1
        rw [e, hh.fresh nl (Nat.le_refl _)] at hb1; cases hb1
       have hle : ρ.Le (ρ.put nl q) := Env.le_put (hh.fresh nl (Nat.le_refl _))
       obtain ⟨_, _, _, _, _, _, _, hmove⟩ := (hh.num q).bigMove (hB.le hle fun l1 k1 hl1 => Env.put_other ρ q (hnl hl1)) hl
       exact hmove n w' 4 c' x' b' F' hst hf hcx _ fun l1 k1 g1 => by
        rcases Tr.get_set g1 with ⟨rfl, rfl⟩ | ⟨hne, g1⟩
        · exact .inl ⟨rfl, rfl⟩
        · exact .inr (Tr.get_del g1)
  · cases hr
end
end Rf
end Go.Proofs.Ytighjgmgpphohaa
end
