/-
  Trace lines (5): the line of a batch: the program's and the reference's.
-/
import Derived.Test.YtjjijagclgambaaGreatDoorTl4
namespace Go.Proofs.YtjjijagclgambaaGreatDoor
open Go.Vm Go.TraceP
namespace Txt

-- SPECS
theorem spJn_ok {β : Base} {g : FuncId} (hG : ∀ I B S V F, β.G I B S V F → SxOk S)
    (hg : ∀ {ρ : Env} {H : Heap} {nl : Nat} {w : World}, HRel β ρ H nl w → ∀ s : List UInt8, s.length ≤ 1000 → Calls Tryz.prog g #[.string (bytes s)] w (fun e w' => e = .returned (.string (bytes (turn 32 95 s))) ∧ Framed w w')) : SpGOk Tryz.prog β g spJn := by
  intro args H nl cs ls ρ w xs hr hx hh hc
  unfold spJn at hr
  split at hr
  rotate_left
  · cases hr
  rename_i k p q
  cases hb : (Nat.beq k 3 || Nat.beq k 4) with
  | false => rw [hb] at hr; cases hr
  | true =>
    rw [hb] at hr
    simp only [cond_true, Option.some.injEq] at hr
    subst hr
    have hS : SxOk ρ.S := hG _ _ _ _ _ hh.g
    have key : ∀ l : List UInt8, textF k (p.den ρ) (q.den ρ) = l → textF (k + 3) (p.den ρ) (q.den ρ) = turn 32 95 l → l.length ≤ 100 →
        Calls Tryz.prog g xs.toArray w (fun e w' => ∃ v, e = .returned v ∧ ∃ u H' nl' cs' ρ', Leaf.ret u H' nl' cs' ∈ [Leaf.ret (.str (.fn (k + 3) p q)) H nl cs] ∧ ρ.Le ρ' ∧ u.den ρ' = some v ∧ HRel β ρ' H' nl' w' ∧ CRel ρ' cs') := fun l h1 h2 hl => by
      have d1 := fn_den hS (k := k) (p := p) (q := q) rfl rfl (by rw [h1]; omega)
      have d2 := fn_den hS (k := k + 3) (p := p) (q := q) rfl rfl (by rw [h2, turn_len]; omega)
      rw [h1] at d1
      rw [h2] at d2
      obtain rfl : [.string (bytes l)] = xs := by
        simp only [AVal.denL, AVal.den, d1, Option.some.injEq] at hx
        exact hx
      exact spV_ok (hg hh l (by omega)) (by simp only [AVal.den, d2]; rfl) hh hc
    rcases Bool.or_eq_true_iff.1 hb with h3 | h4
    · obtain rfl := Nat.eq_of_beq_eq_true h3
      exact key _ rfl rfl opTextR_len
    · obtain rfl := Nat.eq_of_beq_eq_true h4
      exact key _ rfl rfl respTextR_len
def v13 : AVal := .int .u64 (.bin .and .u64 (.var 15) (.lit 65535))
theorem run13 : (run Tryz.prog [] noSp 4000 false 13 (entry Tryz.f13 (Tryz.f13.body.getD .ret) [aU] .leaf 0 [])).map (·.all (retIs v13)) = some true := by kernel_rfl
theorem block13 {w : World} {u : Nat} (hu : u < 18446744073709551616) : Calls Tryz.prog 13 #[.int .u64 u] w (fun e w' => e = .returned (.int .u64 ((u % 65536 : Nat) : Int)) ∧ Framed w w') := by
  refine calls_ret (β := ⟨w, [], GL⟩) (ρ := envU u) noExt noSp_ok rfl Tryz.func13 rfl run13 (xs := [.int .u64 u]) rfl (HRel.startG w _ (fun _ => rfl) (envU_G hu)) c0 fun ρ' hle => ?_
  have h15 : ρ'.I 15 = (u : Int) := by rw [hle.i]; rfl
  have ha := and_low (x := (u : Int)) (by omega) (by omega)
  simp only [v13, AVal.den, IT.den, h15, ha, Option.map_some]
  rfl
theorem h16_den {ρ : Env} {u : Nat} (h : ρ.I 15 = u) : h16.den ρ = some ((u % 65536 : Nat) : Int) := by
  have := rem_low (x := (u : Int)) (by omega)
  simp only [h16, IT.den, h, this]
  rfl
theorem spBk_ok {β : Base} (hG : ∀ I B S V F, β.G I B S V F → RangeU I B S V F) : SpGOk Tryz.prog β 13 spBk := by
  intro args H nl cs ls ρ w xs hr hx hh hc
  dsimp only [spBk] at hr
  cases hb : AVal.beqL args [aU] with
  | false => rw [hb] at hr; cases hr
  | true =>
    rw [hb] at hr
    simp only [cond_true, Option.some.injEq] at hr
    subst hr
    obtain rfl := AVal.beqL_eq _ _ hb
    have hR : (0 ≤ ρ.I 15 ∧ ρ.I 15 < 18446744073709551616) := (hG _ _ _ _ _ hh.g).1
    obtain ⟨u, hu⟩ := Int.eq_ofNat_of_zero_le hR.1
    obtain rfl : [.int .u64 (u : Int)] = xs := by
      simp only [aU, AVal.denL, AVal.den, IT.den, hu, Option.map_some, Option.some.injEq] at hx
      exact hx
    exact spV_ok (block13 (by omega)) (by simp only [AVal.den, h16_den hu, Option.map_some]) hh hc
-- WHAT A LINE IS
/-- The part of a line for one that was applied. -/
def entT (f : Nat → Int) : List UInt8 := ((((((([32] ++ Lib.itoa (f 0)) ++ [47]) ++ Lib.decDigits (f 1).toNat) ++ [47]) ++ turn 32 95 (opTextR (f 2) (f 3) (f 4) (f 5))) ++ [61]) ++ turn 32 95 (respTextR (f 6) (f 7)))
def lineT (h : Nat) (v : Value) : Nat → List UInt8
  | 0 => Lib.decDigits (h % 65536) ++ [58]
  | i + 1 => lineT h v i ++ entT fun j => selI v (i * 8 + j)
/-- The numbers of a row are what their kinds allow. -/
def OkRow (v : Value) : Prop := (∀ n, n % 8 ≠ 1 → -9223372036854775808 ≤ selI v n ∧ selI v n < 9223372036854775808) ∧ ∀ n, n % 8 = 1 → 0 ≤ selI v n ∧ selI v n < 18446744073709551616
noncomputable def envL (h : Nat) (v : Value) (n o q b : Nat) : Env := ⟨fun i => if i = 15 then (h : Int) else if i = 36 then (n : Int) else if i = 62 then (o : Int) else if i = 63 then (q : Int) else 0, fun _ => false, Sx, fun i => if i = 0 then v else undef, fun i => if i = 0 then some b else none, fun k x y => if k = 9 then prI x y else 0⟩
def G5 (h : Nat) (v : Value) (n : Nat) : GP := fun I B S V F => GL I B S V F ∧ (I 15 = h ∧ (I 36 = n ∧ V 0 = v))
theorem envL_G {h : Nat} {v : Value} {n o q b : Nat} (hh : h < 18446744073709551616) (hn : n < 9223372036854775808) (hv : OkRow v) : (G5 h v n).at (envL h v n o q b) := by
  refine ⟨⟨⟨⟨SxOk.of rfl, fun i hi h60 => ?_, fun k hk => ?_, fun x k hx => ?_⟩, fun x y => rfl⟩, ?_, fun k hk => ?_⟩, rfl, rfl, rfl⟩
  · show -9223372036854775808 ≤ (if i = 15 then (h : Int) else if i = 36 then (n : Int) else if i = 62 then (o : Int) else if i = 63 then (q : Int) else 0) ∧ (if i = 15 then (h : Int) else if i = 36 then (n : Int) else if i = 62 then (o : Int) else if i = 63 then (q : Int) else 0) < 9223372036854775808
    rw [if_neg hi]
    by_cases h36 : i = 36
    · rw [if_pos h36]; omega
    · rw [if_neg h36, if_neg (by omega), if_neg (by omega)]; decide
  · exact hv.1 k hk
  · show -9223372036854775808 ≤ selI (if x = 0 then v else undef) k ∧ selI (if x = 0 then v else undef) k < 9223372036854775808
    rw [if_neg hx, selI_undef]; decide
  · exact (show 0 ≤ (h : Int) ∧ (h : Int) < 18446744073709551616 from ⟨by omega, by omega⟩)
  · exact hv.2 k hk
theorem entT_len {f : Nat → Int} (h0 : -9223372036854775808 ≤ f 0 ∧ f 0 < 9223372036854775808) (h1 : 0 ≤ f 1 ∧ f 1 < 18446744073709551616) : (entT f).length ≤ 300 := by
  have a := itoa_len h0.1 h0.2
  have b := dec_len64 (u := (f 1).toNat) (by omega)
  have c := opTextR_len (c := f 2) (k := f 3) (a := f 4) (b := f 5)
  have d := respTextR_len (k := f 6) (v := f 7)
  simp only [entT, List.length_append, List.length_cons, List.length_nil, turn_len]
  omega
theorem lineT_len {h : Nat} {v : Value} (hh : h < 18446744073709551616) (hv : OkRow v) : ∀ i, (lineT h v i).length ≤ 100 + i * 300
  | 0 => by
    have := dec_len64 (u := h % 65536) (by omega)
    simp only [lineT, List.length_append, List.length_cons, List.length_nil]; omega
  | i + 1 => by
    have a := lineT_len hh hv i
    have b := entT_len (f := fun j => selI v (i * 8 + j)) (hv.1 _ (by omega)) (hv.2 _ (by omega))
    rw [lineT, List.length_append]; omega
-- THE LOOPS
def cel (j : Nat) : PT := .sel 0 8 j (.var 9)
def entX : ST := .cat (.cat (.cat (.cat (.cat (.cat (.cat (.lit [32]) (.fn 1 (cel 0) (.lit 0))) (.lit [47])) (.fn 5 (cel 1) (.lit 0))) (.lit [47])) (.fn 6 (.fn 9 (cel 2) (cel 3)) (.fn 9 (cel 4) (cel 5)))) (.lit [61])) (.fn 7 (cel 6) (cel 7))
def linX : ST := .cat (.var 7) entX
def hdX : ST := .cat (.fn 5 (.bin .rem .u64 (.var 15) (.lit 65536)) (.lit 0)) (.lit [58])
def sL0 : Sub := ⟨[(9, (.lit 0))], [], [(7, hdX)], [], [(0, 0)]⟩
def sLn : Sub := ⟨[(9, up9)], [], [(7, linX)], [], [(0, 0)]⟩
theorem ln_e5 : RCt sp5 5 Tryz.f5 [TL] [bA SLl] (ofP [bB]) csB [.next 0 (.code (.loop (lb Tryz.f5 0)) :: lq Tryz.f5 0) [] sL0] := by unfold RCt; kernel_rfl
theorem ln_r5 : RHt sp5 5 Tryz.f5 0 [TL] TL (lt9 (.var 36) true ++ fSz linX) [.next 0 (.inLoop (lb Tryz.f5 0) :: lq Tryz.f5 0) [] sLn] := by unfold RHt; kernel_rfl
theorem ln_r5e : RHt sp5 5 Tryz.f5 0 [TL] TL (lt9 (.var 36) false) [.ret (.str (.var 7)) []] := by unfold RHt; kernel_rfl
theorem ln_e6 : RCt sp6 6 Tryz.f6 [TL] [bA SLl] (ofP [bB]) csB [.next 0 (.code (.loop (lb Tryz.f6 0)) :: lq Tryz.f6 0) [] sL0] := by unfold RCt; kernel_rfl
theorem ln_r6 : RHt sp6 6 Tryz.f6 0 [TL] TL (lt9 (.var 36) true ++ fSz linX) [.next 0 (.inLoop (lb Tryz.f6 0) :: lq Tryz.f6 0) [] sLn] := by unfold RHt; kernel_rfl
theorem ln_r6e : RHt sp6 6 Tryz.f6 0 [TL] TL (lt9 (.var 36) false) [.ret (.str (.var 7)) []] := by unfold RHt; kernel_rfl
structure JL (h : Nat) (v : Value) (n i : Nat) (ρ : Env) : Prop where
  i9 : ρ.I 9 = (i : Int)
  le : i ≤ n
  s7 : ρ.S 7 = bytes (lineT h v i)
theorem JL.of_le {h : Nat} {v : Value} {n i : Nat} {ρ ρ' : Env} (j : JL h v n i ρ) (hle : ρ.Le ρ') : JL h v n i ρ' := ⟨by rw [hle.i]; exact j.i9, j.le, by rw [hle.s]; exact j.s7⟩
section
variable {h : Nat} {v : Value} {n : Nat} {ρ : Env}
theorem lKeep {t : IT} {S : List (Nat × ST)} {N : List (Nat × Nat)} {x : Int} (hx : t.den ρ = some x) (h1 : -9223372036854775808 ≤ x) (h2 : x < 9223372036854775808) (hG : (G5 h v n).at ρ) : (G5 h v n).at (Sub.app ⟨[(9, t)], [], S, [], N⟩ ρ) := by
  obtain ⟨⟨⟨⟨hS, hI, hV, hW⟩, hF⟩, hU, hU2⟩, h15, h36, hv⟩ := hG
  refine ⟨⟨⟨⟨fun k x y => (app_cod k x y).trans (hS k x y), fun i hi h60 => ?_, hV, hW⟩, hF⟩, hU, hU2⟩, h15, h36, hv⟩
  by_cases h9 : i = 9
  · subst h9
    have e : (Sub.app ⟨[(9, t)], [], S, [], N⟩ ρ).I 9 = x := sbI rfl hx
    show _ ≤ (Sub.app ⟨[(9, t)], [], S, [], N⟩ ρ).I 9 ∧ _
    rw [e]; exact ⟨h1, h2⟩
  · have e : (Sub.app ⟨[(9, t)], [], S, [], N⟩ ρ).I i = ρ.I i := by
      have : lk [(9, t)] i = none := by rw [lk_cons, if_neg (by omega), lk_nil]
      simp only [Sub.app, this]
    rw [e]; exact hI i hi h60
theorem cel_den {i : Nat} (h9 : ρ.I 9 = (i : Int)) (hv : ρ.V 0 = v) (j : Nat) : (cel j).den ρ = selI v (i * 8 + j) := by
  simp only [cel, PT.den, h9, hv]
  rfl
theorem entX_den {i : Nat} (hv : OkRow v) (hG : (G5 h v n).at ρ) (h9 : ρ.I 9 = (i : Int)) : entX.den ρ = bytes (entT fun j => selI v (i * 8 + j)) := by
  obtain ⟨⟨⟨⟨hS, _⟩, hF⟩, _⟩, _, _, hV⟩ := hG
  have hS : SxOk ρ.S := hS
  have hV : ρ.V 0 = v := hV
  have c := fun j => cel_den h9 hV j
  have d1 := fn_den hS (k := 1) (p := cel 0) (q := .lit 0) (c 0) rfl (by show (Lib.itoa _).length ≤ _; have := itoa_len (hv.1 (i * 8 + 0) (by omega)).1 (hv.1 (i * 8 + 0) (by omega)).2; omega)
  have d5 := fn_den hS (k := 5) (p := cel 1) (q := .lit 0) (c 1) rfl (by show (Lib.decDigits _).length ≤ _; have := dec_len64 (u := (selI v (i * 8 + 1)).toNat) (by have := hv.2 (i * 8 + 1) (by omega); omega); omega)
  have p1 : (PT.fn 9 (cel 2) (cel 3)).den ρ = prI (selI v (i * 8 + 2)) (selI v (i * 8 + 3)) := by
    have : ρ.F 9 = fun x y => prI x y := funext fun x => funext fun y => hF x y
    simp only [PT.den, c, this]
  have p2 : (PT.fn 9 (cel 4) (cel 5)).den ρ = prI (selI v (i * 8 + 4)) (selI v (i * 8 + 5)) := by
    have : ρ.F 9 = fun x y => prI x y := funext fun x => funext fun y => hF x y
    simp only [PT.den, c, this]
  have t6 : textF 6 (prI (selI v (i * 8 + 2)) (selI v (i * 8 + 3))) (prI (selI v (i * 8 + 4)) (selI v (i * 8 + 5))) = turn 32 95 (opTextR (selI v (i * 8 + 2)) (selI v (i * 8 + 3)) (selI v (i * 8 + 4)) (selI v (i * 8 + 5))) := by
    show turn 32 95 (opTextR (unP _).1 (unP _).2 (unP _).1 (unP _).2) = _
    rw [unP_prI, unP_prI]
  have d6 := fn_den hS (k := 6) p1 p2 (by rw [t6, turn_len]; exact Nat.le_trans opTextR_len (by omega))
  rw [t6] at d6
  have d7 := fn_den hS (k := 7) (p := cel 6) (q := cel 7) (c 6) (c 7) (by show (turn 32 95 (respTextR _ _)).length ≤ _; rw [turn_len]; exact Nat.le_trans respTextR_len (by omega))
  exact catD (catD (catD (catD (catD (catD (catD (slitD [32]) d1) (slitD [47])) d5) (slitD [47])) d6) (slitD [61])) d7
theorem hdX_den (_hh : h < 18446744073709551616) (hG : (G5 h v n).at ρ) : hdX.den ρ = bytes (lineT h v 0) := by
  obtain ⟨⟨⟨⟨hS, _⟩, _⟩, _⟩, h15, _⟩ := hG
  have hS : SxOk ρ.S := hS
  have hp : (PT.bin .rem .u64 (.var 15) (.lit 65536)).den ρ = ((h % 65536 : Nat) : Int) := by
    have := h16_den (ρ := ρ) h15
    simp only [h16, IT.den] at this
    simp only [PT.den, this, Option.getD_some]
  have d5 := fn_den hS (k := 5) (p := .bin .rem .u64 (.var 15) (.lit 65536)) (q := .lit 0) hp rfl (by show (Lib.decDigits _).length ≤ _; have := dec_len64 (u := h % 65536) (by omega); rw [Int.toNat_natCast]; omega)
  exact catD d5 (slitD [58])
theorem JL.cs {i : Nat} (j : JL h v n i ρ) (hn : n ≤ 50) (hG : (G5 h v n).at ρ) : CRel ρ TL.cs :=
  CRel_app.2 ⟨cs9_ok j.i9 (varD hG.2.2.1) j.le, qD (varD hG.2.2.1) (litD 50) (by simp [intCmp]; omega) c0⟩
def QL (h : Nat) (v : Value) (n : Nat) (x : Value) : Prop := x = .string (bytes (lineT h v n))
theorem lineLoop {sp : CallF} {f : FuncId} {fn : Func} {w : World} (hh : h < 18446744073709551616) (hn : n ≤ 50) (hv : OkRow v) (hsp : CallOk Tryz.prog ⟨w, [], G5 h v n⟩ sp)
    (hr : RHt sp f fn 0 [TL] TL (lt9 (.var 36) true ++ fSz linX) [.next 0 (.inLoop (lb fn 0) :: lq fn 0) [] sLn]) (he : RHt sp f fn 0 [TL] TL (lt9 (.var 36) false) [.ret (.str (.var 7)) []]) :
    ∀ (_ : Unit) ρ, (∃ i, JL h v n i ρ) → ∀ todo a w1, todo = .inLoop (lb fn 0) :: lq fn 0 ∨ todo = .code (.loop (lb fn 0)) :: lq fn 0 → SRel ⟨w, [], G5 h v n⟩ ρ (TL.st todo) a w1 → Goes Tryz.prog f (fun x w' => QL h v n x ∧ Framed w w') todo a w1 :=
  scanT (β := ⟨w, [], G5 h v n⟩) (sp := sp) (f := f) (fn := fn) (j := 0) (Ts := [TL]) (T := fun (_ : Unit) => TL) hsp rfl (Q := QL h v n) (fun _ ρ => ∃ i, JL h v n i ρ) (fun _ ρ => ((n : Int) - ρ.I 9).toNat) fun _ ρ ⟨i, j⟩ hG hcs ih => by
    have hi := j.le
    have e36 : (IT.var 36).den ρ = some (n : Int) := varD hG.2.2.1
    by_cases hlt : i < n
    · have s7 : (ST.var 7).den ρ = bytes (lineT h v i) := j.s7
      have dC := catD s7 (entX_den hv hG j.i9)
      have hlen := lineT_len hh hv (i + 1)
      refine ⟨_, _, CRel_app.2 ⟨lt9_ok j.i9 e36 (decide_eq_true hlt), fSz_ok (t := linX) (l := lineT h v (i + 1)) dC (by omega)⟩, hr, Go.Vm.one (nextS rfl fun ρ' hle hG' => ?_)⟩
      have j' := j.of_le hle
      have up := upD (x := i) (varD j'.i9) (by omega)
      have jn : JL h v n (i + 1) (sLn.app ρ') := ⟨sbI (t := up9) rfl up, hlt, catD (show (ST.var 7).den ρ' = _ from j'.s7) (entX_den hv hG' j'.i9)⟩
      have hGn : (G5 h v n).at (sLn.app ρ') := lKeep up (by omega) (by omega) hG'
      exact ⟨hGn, jn.cs hn hGn, fun a w' r => ih () _ (by rw [jn.i9, j.i9]; omega) ⟨_, jn⟩ _ a w' (.inl rfl) r⟩
    · obtain rfl : i = n := by omega
      refine ⟨_, _, lt9_ok j.i9 e36 (decide_eq_false hlt), he, Go.Vm.one (retS (z := .string (bytes (lineT h v i))) (fun ρ' hle => ?_) rfl)⟩
      have := (j.of_le hle).s7
      simp only [AVal.den, ST.den, this]
theorem hrelL {w : World} {o q b : Nat} (hR : RowAt w b o ks8 n v) {G : GP} (hG : G.at (envL h v n o q b)) : HRel ⟨w, [], G⟩ (envL h v n o q b) (ofP [bB]) 480 w :=
  HRel.ro [(0, .arr (.var 0) ks8 50 (.var 36) (.var 62) none)] (fun p hp => by
    obtain rfl := List.mem_singleton.1 hp
    obtain ⟨ob, h1, h2⟩ := hR.rel (ρ := envL h v n o q b) (a := 0) (n := .var 36) (off := .var 62) rfl rfl rfl 50
    exact ⟨b, ob, rfl, h1, h2⟩) (fun i hi => if_neg (by omega)) hG
theorem line_of {sp : CallF} {f : FuncId} {fn : Func} {w : World} {o q b : Nat} (hh : h < 18446744073709551616) (hn : n ≤ 50) (hv : OkRow v) (hR : RowAt w b o ks8 n v) (hsp : CallOk Tryz.prog ⟨w, [], G5 h v n⟩ sp) (hf : Tryz.prog.funcs[f]? = some fn) (hb : fn.body = some (fn.body.getD .ret))
    (hr : RHt sp f fn 0 [TL] TL (lt9 (.var 36) true ++ fSz linX) [.next 0 (.inLoop (lb fn 0) :: lq fn 0) [] sLn]) (he : RHt sp f fn 0 [TL] TL (lt9 (.var 36) false) [.ret (.str (.var 7)) []])
    (h0 : RCt sp f fn [TL] [bA SLl] (ofP [bB]) csB [.next 0 (.code (.loop (lb fn 0)) :: lq fn 0) [] sL0]) :
    Calls Tryz.prog f #[.agg #[.int .u64 h, .slice (some ⟨b, o, none⟩) n q]] w (fun e w' => e = .returned (.string (bytes (lineT h v n))) ∧ Framed w w') := by
  have hG := envL_G (o := o) (q := q) (b := b) hh (show n < 9223372036854775808 by omega) hv
  refine (callT (β := ⟨w, [], G5 h v n⟩) (ρ := envL h v n o q b) (Q := QL h v n) hsp rfl hf hb h0 (xs := [.agg #[.int .u64 h, .slice (some ⟨b, o, none⟩) n q]]) ?_ (hrelL hR hG) (qD (varD (show (envL h v n o q b).I 36 = (n : Int) from rfl)) (litD 50) (by simp [intCmp]; omega) c0) (Go.Vm.one (nextS rfl fun ρ' hle hG' => ?_))).mono fun e w' ⟨x, he, hx, hf⟩ => ⟨by rw [he, hx], hf⟩
  · refine denL1 ?_
    have e1 : (AVal.int .u64 (.var 15)).den (envL h v n o q b) = some (.int .u64 h) := rfl
    have e2 : SLl.den (envL h v n o q b) = some (.slice (some ⟨b, o, none⟩) n q) := den_slice_of rfl rfl rfl rfl
    simp only [bA, AVal.den, denL2 e1 e2, Option.map_some]
  · have hGn : (G5 h v n).at (sL0.app ρ') := lKeep (t := .lit 0) (x := 0) rfl (by decide) (by decide) hG'
    have jn : JL h v n 0 (sL0.app ρ') := ⟨rfl, Nat.zero_le _, hdX_den hh hG'⟩
    exact ⟨hGn, jn.cs hn hGn, fun a w' r => lineLoop hh hn hv hsp hr he () _ ⟨0, jn⟩ _ a w' (.inr rfl) r⟩
end
theorem sp5_ok {w : World} (hT : TabW w) (hM : MaxW w) {h : Nat} {v : Value} {n : Nat} : CallOk Tryz.prog ⟨w, [], G5 h v n⟩ sp5 := spL_ok fun p hp => by
  simp only [List.mem_cons, List.not_mem_nil, or_false] at hp
  rcases hp with rfl | rfl | rfl | rfl | rfl | rfl
  · exact spBk_ok fun _ _ _ _ _ h => h.1.2
  · exact spU_ok (ten := true) (fun _ _ _ _ _ h => ⟨h.1.1.1.1, h.1.2⟩) fun hh u hu => uint12 (TabW.of hT rfl hh) hu
  · exact spText_ok (fun _ _ _ _ _ h => h.1.1.1) fun hh n h1 h2 => itoa14 (TabW.of hT rfl hh) n h1 h2
  · exact spOpT_ok (fun _ _ _ _ _ h => h.1.1) fun hh c k a b h1 h2 h3 h4 => text16 _ (TabW.of hT rfl hh) h1 h2 h3 h4
  · exact spRespT_ok (fun _ _ _ _ _ h => h.1.1) fun hh k v h1 h2 => text17 _ (TabW.of hT rfl hh) h1 h2
  · exact spJn_ok (fun _ _ _ _ _ h => h.1.1.1.1) fun hh s hs => joined15 (hM.of rfl hh) s hs
theorem sp6_ok {w : World} {h : Nat} {v : Value} {n : Nat} : CallOk Tryz.prog ⟨w, [], G5 h v n⟩ sp6 := spL_ok fun p hp => by
  simp only [List.mem_cons, List.not_mem_nil, or_false] at hp
  rcases hp with rfl | rfl | rfl | rfl | rfl
  · exact spU_ok (ten := false) (fun _ _ _ _ _ h => ⟨h.1.1.1.1, h.1.2⟩) fun _ u hu => uns18 u hu _
  · exact spText_ok (fun _ _ _ _ _ h => h.1.1.1) fun _ n h1 h2 => num19 _ n h1 h2
  · exact spOpT_ok (fun _ _ _ _ _ h => h.1.1) fun _ c k a b h1 h2 h3 h4 => text21 _ h1 h2 h3 h4
  · exact spRespT_ok (fun _ _ _ _ _ h => h.1.1) fun _ k v h1 h2 => text22 _ h1 h2
  · exact spJn_ok (fun _ _ _ _ _ h => h.1.1.1.1) fun _ s hs => under20 s hs
theorem line5 {w : World} (hT : TabW w) (hM : MaxW w) {h : Nat} {v : Value} {n o q b : Nat} (hh : h < 18446744073709551616) (hn : n ≤ 50) (hv : OkRow v) (hR : RowAt w b o ks8 n v) :
    Calls Tryz.prog 5 #[.agg #[.int .u64 h, .slice (some ⟨b, o, none⟩) n q]] w (fun e w' => e = .returned (.string (bytes (lineT h v n))) ∧ Framed w w') :=
  line_of hh hn hv hR (sp5_ok hT hM) Tryz.func5 rfl ln_r5 ln_r5e ln_e5
theorem line6 {w : World} {h : Nat} {v : Value} {n o q b : Nat} (hh : h < 18446744073709551616) (hn : n ≤ 50) (hv : OkRow v) (hR : RowAt w b o ks8 n v) :
    Calls Tryz.prog 6 #[.agg #[.int .u64 h, .slice (some ⟨b, o, none⟩) n q]] w (fun e w' => e = .returned (.string (bytes (lineT h v n))) ∧ Framed w w') :=
  line_of hh hn hv hR sp6_ok Tryz.func6 rfl ln_r6 ln_r6e ln_e6
end Txt
end Go.Proofs.YtjjijagclgambaaGreatDoor
