/-
  LinearTells (29): the reference's replay answers, and becomes, what the order says.
-/
import Derived.Test.YtpgonpjakllnjaaLt22
import Derived.Test.YtpgonpjakllnjaaLt24
import Derived.Test.YtpgonpjakllnjaaLt26
import Derived.Test.YtpgonpjakllnjaaLt32
namespace Go.Proofs.Ytpgonpjakllnjaa
open Go.Vm Go.Vm.Md Lm
namespace Lt

theorem r_y (z : Option Kd) (e s : Bool) (h : z = some .row → e = true → s = false) : RHM sp15 15 Try.f15 0 e15 (t15 .row) (T15 .row z) (lt9 (.var 38) true ++ inL (oT at9) ++ yC z e s) [go15 (some (nk e z)) (sY z (nYs s e z))] := by
  match z, e, s with
  | none, true, s => exact r_y0t s
  | none, false, s => exact r_y0f s
  | some .nil, true, s => exact r_y1nt s
  | some .nil, false, s => exact r_y1nf s
  | some .zero, true, s => exact r_y1zt s
  | some .zero, false, s => exact r_y1zf s
  | some .row, true, true => cases h rfl rfl
  | some .row, true, false => exact r_y1rtf
  | some .row, false, true => exact r_y1rft
  | some .row, false, false => exact r_y1rff
theorem nk_not (e : Bool) (z : Option Kd) : notRow (nk e z) = e := by
  cases e with
  | false => rfl
  | true => match z with
    | none => rfl
    | some .nil => rfl
    | some .zero => rfl
    | some .row => rfl
section
variable {d : Dt} {ρ : Env} {w : World}
theorem stO_ok : ∀ i, VOk (d.stO i)
  | 0 => VOk0
  | i + 1 => by
    unfold Dt.stO
    split
    · exact VOk.apply (stO_ok i)
    · exact stO_ok i
theorem stO_cn0 : ∀ {i}, d.cn i = 0 → d.stO i = mod0
  | 0, _ => rfl
  | i + 1, h => by
    unfold Dt.cn at h
    unfold Dt.stO
    split at h
    · omega
    · rename_i hn
      rw [if_neg hn]
      exact stO_cn0 h
/-- The names, where it begins. -/
def env15 (d : Dt) (ρ : Env) : Env := ⟨fun i => if i = 21 then mod0.code else ρ.I i, ρ.B, ρ.S, ρ.V, ρ.N, fun k => if k = 56 then f56 d else if k = 57 then f57 d else if k = 58 then f58 d else if k = 59 then f59 d else ρ.F k⟩
theorem env15_I {i : Nat} (h : 30 ≤ i) : (env15 d ρ).I i = ρ.I i := if_neg (by omega)
theorem env15_G (h : (Gd d).at ρ) : (G15 d).at (env15 d ρ) := by
  refine ⟨⟨fun p hp => ?_, h.2⟩, ⟨rfl, rfl, rfl, rfl⟩, mod0, VOk0, rfl⟩
  have h30 := pins30 d p hp
  have := env15_I (d := d) (ρ := ρ) h30
  rw [this]; exact h.1 p hp
theorem start15 {k : Kd} (hh : HRel ⟨w, [], Gd d⟩ ρ (ofP (roH (EE k .row))) 500 w) : HRel ⟨w, [], G15 d⟩ (env15 d ρ) (ofP (roH (EE k .row))) 500 w := by
  have hE : hasE (EE k .row) (ofP (roH (EE k .row))) = true := by cases k <;> rfl
  refine HRel.ro (EE k .row) (fun p hp => ?_) (fun i hi => hh.fresh i hi) (env15_G hh.g) (nb_EE _ _)
  have h1 := List.all_eq_true.1 hE p hp
  split at h1
  · rename_i kk hk
    obtain ⟨b, o, hb, ho, hr⟩ := hh.blk _ _ hk
    rw [ABlk.beq_eq h1] at hr
    rcases mem_EE hp with rfl | rfl
    · exact ⟨b, o, hb, ho, bL_rel (fun i hi => env15_I hi) (rel_ro hr)⟩
    · exact ⟨b, o, hb, ho, bO_rel (fun i hi => env15_I hi) (rel_ro hr)⟩
  · cases h1
/-- Where the loop stands. -/
structure J15 (d : Dt) (i : Nat) (z : Option Kd) (ρ : Env) : Prop where
  i9 : ρ.I 9 = (i : Int)
  le : i ≤ d.m
  no : z = none → d.cn i = 0
  so : ∀ k, z = some k → d.kl = .row ∧ ρ.I 21 = (d.stO i).code ∧ JU (d.ouO i) (d.cn i) ρ ∧ (notRow k = true ↔ (d.stO i).Q = [])
theorem J15.of_le {i : Nat} {z : Option Kd} {ρ' : Env} (h : J15 d i z ρ) (g : ρ.Le ρ') : J15 d i z ρ' :=
  ⟨by rw [g.i]; exact h.i9, h.le, h.no, fun k e => by obtain ⟨a, b, c, f⟩ := h.so k e; exact ⟨a, by rw [g.i]; exact b, c.of_le g, f⟩⟩
theorem XT_den {i : Nat} {z : Option Kd} (j : J15 d i z ρ) : (XT z.isSome).den ρ = some (d.stO i).code := by
  cases z with
  | none => rw [stO_cn0 (j.no rfl)]; exact m0T_den
  | some k => exact varD (j.so k rfl).2.1
theorem eNow_ok (hG : (Gd d).at ρ) {i : Nat} {k : Kd} (h21 : ρ.I 21 = (d.stO i).code) (hk : notRow k = true ↔ (d.stO i).Q = []) : (eNow true).den ρ = some (notRow k) := by
  have e : (IT.fn 54 (.var 21) (.lit 0)).den ρ = some ((d.stO i).Q.length : Int) := by
    rw [fnD (varD h21) (litD 0), hG.2.2.2.2.2.2.2.2.1]
    show some ((Mod.of (d.stO i).code).Q.length : Int) = _
    rw [Mod.of_code]
  unfold eNow
  simp only [XT, BT.den, e]
  show some (decide (((d.stO i).Q.length : Int) = 0)) = _
  cases hk' : notRow k with
  | true => rw [hk.1 hk']; rfl
  | false =>
    have : (d.stO i).Q ≠ [] := fun h => by rw [hk.2 h] at hk'; cases hk'
    have := List.length_pos_iff.2 this
    rw [decide_eq_false (by omega)]
theorem J15.cs {i : Nat} {z : Option Kd} (ok : DOk d) (hk : d.ko = .row) (j : J15 d i z ρ) (hG : (G15 d).at ρ) : CRel ρ (T15 d.kl z).cs := by
  have he := dcE ok hG.1
  rw [hk] at he
  refine CRel_app.2 ⟨CRel_app.2 ⟨cs9_ok j.i9 (pM hG.1) j.le, he⟩, ?_⟩
  cases z with
  | none => exact c0
  | some k =>
    obtain ⟨_, h21, hu, hq⟩ := j.so k rfl
    exact c1 (eNow_ok hG.1 h21 hq) hu.cs
theorem step15 {i : Nat} {z : Option Kd} (j : J15 d i z ρ) (hG : (G15 d).at ρ) (hin : d.inR (d.o i) = true) : (xN z.isSome).den ρ = some (d.stO (i + 1)).code ∧ (nN z.isSome).den ρ = some ((d.stO (i + 1)).Q.length : Int) ∧ ∀ {c : IT} {L : List Int}, c.den ρ = some (encL L) → (ouU z.isSome c).den ρ = some (encL (L ++ [(d.anO i).1, (d.anO i).2])) := by
  obtain ⟨hGd, ⟨g56, g57, g58, g59⟩, _⟩ := hG
  have hX := XT_den j
  have e9 : at9.den ρ = some (i : Int) := varD j.i9
  have eX : (xN z.isSome).den ρ = some (d.stO (i + 1)).code := by
    rw [Dt.stO, if_pos hin]
    cases z with
    | none =>
      rw [stO_cn0 (j.no rfl)]
      show (xN false).den ρ = _
      rw [xN, fnD e9 (litD 0), g59]
      show some (d.go mod0 (d.o ((i : Int)).toNat)).2.code = _
      rw [Int.toNat_natCast]
    | some k =>
      show (xN true).den ρ = _
      rw [xN, fnD (t := .var 21) hX e9, g56]
      show some (d.go (Mod.of (d.stO i).code) (d.o ((i : Int)).toNat)).2.code = _
      rw [Mod.of_code, Int.toNat_natCast]
  refine ⟨eX, ?_, fun {c L} hc => ?_⟩
  · rw [nN, fnD eX (litD 0), hGd.2.2.2.2.2.2.2.2.1]
    show some ((Mod.of (d.stO (i + 1)).code).Q.length : Int) = _
    rw [Mod.of_code]
  · have e57 : (IT.fn 57 (XT z.isSome) at9).den ρ = some (d.anO i).1 := by
      rw [fnD hX e9, g57]
      show some (d.go (Mod.of (d.stO i).code) (d.o ((i : Int)).toNat)).1.1 = _
      rw [Mod.of_code, Int.toNat_natCast]; rfl
    have e58 : (IT.fn 58 (XT z.isSome) at9).den ρ = some (d.anO i).2 := by
      rw [fnD hX e9, g58]
      show some (d.go (Mod.of (d.stO i).code) (d.o ((i : Int)).toNat)).1.2 = _
      rw [Mod.of_code, Int.toNat_natCast]; rfl
    have := snoc_den (snoc_den hc e57) e58
    rw [List.append_assoc] at this
    exact this
theorem tuple_split {a b : AVal} {y : Value} (h : (AVal.tuple [a, b]).den ρ = some y) : ∃ u v, a.den ρ = some u ∧ b.den ρ = some v ∧ y = .tuple #[u, v] := by
  simp only [AVal.den, AVal.denL] at h
  cases h1 : a.den ρ with
  | none => rw [h1] at h; cases h
  | some u =>
    cases h2 : b.den ρ with
    | none => rw [h1, h2] at h; cases h
    | some v => rw [h1, h2] at h; exact ⟨u, v, rfl, rfl, (Option.some.inj h).symm⟩
theorem rmA_split {q : AVal} {cM cS : IT} {v : Value} (h : (rmA q cM cS).den ρ = some v) : ∃ vq, q.den ρ = some vq := by
  cases hq : q.den ρ with
  | some vq => exact ⟨vq, rfl⟩
  | none => simp only [rmA, AVal.den, AVal.denL, hq] at h; cases h
/-- How such a queue's slice comes out. -/
def QO (w w' : World) (vr vq : Value) (Q : List Int) : Prop := (Q = [] ∧ (vq = .slice none 0 0 ∨ ∃ b, vq = .slice (some ⟨b, 0, none⟩) 0 0)) ∨ (Q ≠ [] ∧ ∃ b cap o, vq = .slice (some ⟨b, 0, none⟩) Q.length cap ∧ w'.heap[b]? = some o ∧ RowM Q cap o ∧ w.heap.size ≤ b ∧ ∀ br n c, vr = .slice (some ⟨br, 0, none⟩) n c → br ≠ b)
def RS (d : Dt) (w : World) : Value → World → Prop := fun v w' => ∃ vr vq, v = .tuple #[vr, rmV vq (d.stO d.m)] ∧ Framed w w' ∧ QO w w' vr vq (d.stO d.m).Q ∧ ((d.cn d.m = 0 ∧ vr = .slice none 0 0) ∨ (d.cn d.m ≠ 0 ∧ RowOut w w' vr 27 [.i64, .i64] (d.ouO d.m) (d.cn d.m)))
theorem next15 {i : Nat} {z : Option Kd} {e : Bool} {N : List (Nat × Nat)} (j : J15 d i z ρ) (hG : (G15 d).at ρ) (hl : d.kl = .row) (hlt : i < d.m) (hm : d.m ≤ 60) (hin : d.inR (d.o i) = true) (he : e = true ↔ (d.stO (i + 1)).Q = []) : J15 d (i + 1) (some (nk e z)) ((sY z N).app ρ) ∧ (G15 d).at ((sY z N).app ρ) := by
  obtain ⟨s1, _, s3⟩ := step15 j hG hin
  have e21 : ((sY z N).app ρ).I 21 = (d.stO (i + 1)).code := sbI (t := xN z.isSome) rfl s1
  have hcl := d.cn_le i
  have un : JU (d.ouO (i + 1)) (d.cn (i + 1)) ((sY z N).app ρ) := by
    rw [Dt.cn, if_pos hin, Dt.ouO, if_pos hin]
    cases z with
    | none =>
      have hc := j.no rfl
      have hou : d.ouO i = [] := List.eq_nil_of_length_eq_zero (by rw [d.ou_len, hc])
      rw [hc, hou]
      exact ⟨sbI (t := .lit 1) rfl rfl, sbI (t := ouU false (.lit 0)) rfl (s3 nil_den), by decide, by decide⟩
    | some k =>
      obtain ⟨_, _, hu, _⟩ := j.so k rfl
      exact ⟨sbI (t := up22) rfl (upD (varD hu.i22) (by omega)), sbI (t := ouU true (.var 23)) rfl (s3 (varD hu.i23)), by omega, by omega⟩
  exact ⟨⟨sbI (t := up9) rfl (upD (varD j.i9) (by omega)), hlt, (fun h => by cases h), fun k hk => by cases hk; exact ⟨hl, e21, un, by rw [nk_not]; exact he⟩⟩, gKeep rfl hG.1, hG.2.1, _, stO_ok (i + 1), e21⟩
theorem skip15 {i : Nat} {z : Option Kd} (j : J15 d i z ρ) (hG : (G15 d).at ρ) (hlt : i < d.m) (hm : d.m ≤ 60) (hin : d.inR (d.o i) = false) : J15 d (i + 1) z ((sSk d.kl z).app ρ) ∧ (G15 d).at ((sSk d.kl z).app ρ) := by
  have hst : d.stO (i + 1) = d.stO i := by rw [Dt.stO, if_neg (by rw [hin]; decide)]
  have hcn : d.cn (i + 1) = d.cn i := by rw [Dt.cn, if_neg (by rw [hin]; decide)]
  have hou : d.ouO (i + 1) = d.ouO i := by rw [Dt.ouO, if_neg (by rw [hin]; decide)]
  cases z with
  | none => exact ⟨⟨sbI (t := up9) rfl (upD (varD j.i9) (by omega)), hlt, fun _ => by rw [hcn]; exact j.no rfl, fun k hk => by cases hk⟩, gKeep rfl hG.1, hG.2.1, hG.2.2⟩
  | some k =>
    obtain ⟨hl, h21, hu, hq⟩ := j.so k rfl
    have e21 : ((sSk d.kl (some k)).app ρ).I 21 = (d.stO i).code := sbI (t := .var 21) rfl (varD h21)
    exact ⟨⟨sbI (t := up9) rfl (upD (varD j.i9) (by omega)), hlt, (fun h => by cases h), fun k' hk' => by
      cases hk'
      rw [hst, hcn, hou]
      exact ⟨hl, e21, ⟨sbI (t := .var 22) rfl (varD hu.i22), sbI (t := .var 23) rfl (varD hu.i23), hu.ge, hu.le⟩, hq⟩⟩, gKeep rfl hG.1, hG.2.1, _, stO_ok i, e21⟩
theorem end15 {z : Option Kd} (j : J15 d d.m z ρ) : MGoodO Try.prog ⟨w, [], G15 d⟩ 15 (RS d w) e15 (t15 d.kl) ρ (.done (ix z) [] (sEn z)) := by
  refine doneR (ix_e z) (fun l hl => by cases hl) fun ρ' hle hG => ?_
  have j' := j.of_le hle
  cases z with
  | none =>
    refine ⟨⟨gKeep rfl hG.1, hG.2.1, hG.2.2⟩, c0, fun x w' r => ?_⟩
    obtain ⟨y, hy, he⟩ := r.t 0 _ rfl
    obtain rfl : x = y := Option.some.inj he
    have hc := j'.no rfl
    have hz := tuple2 (ρ := (sEn none).app ρ') (a := .sliceNil) (x := .slice none 0 0) rfl (rmA_den' (q := .sliceNil) (vq := .slice none 0 0) (cM := .lit 0) (cS := .lit 0) (m := mod0) rfl rfl rfl arV0 arV0)
    have hst : d.stO d.m = mod0 := stO_cn0 hc
    refine ⟨.slice none 0 0, .slice none 0 0, ?_, Framed.of r.h, ?_, .inl ⟨hc, rfl⟩⟩
    · rw [hst]; exact Option.some.inj (hy.symm.trans hz)
    · rw [hst]; exact .inl ⟨rfl, .inl rfl⟩
  | some k =>
    obtain ⟨hl, h21, hu, hq⟩ := j'.so k rfl
    have e21 : ((sEn (some k)).app ρ').I 21 = (d.stO d.m).code := sbI (t := .var 21) rfl (varD h21)
    have hG' : (G15 d).at ((sEn (some k)).app ρ') := ⟨gKeep rfl hG.1, hG.2.1, _, stO_ok d.m, e21⟩
    refine ⟨hG', c0, fun x w' r => ?_⟩
    obtain ⟨y, hy, he⟩ := r.t 0 _ rfl
    obtain rfl : x = y := Option.some.inj he
    obtain ⟨vr, vm, hvr, hvm, rfl⟩ := tuple_split (show (AVal.tuple [vI, rmA (qz k) (cMT true) (cST true)]).den _ = some x from hy)
    obtain ⟨vq, hvq⟩ := rmA_split hvm
    obtain ⟨_, _, _, _, _, g51, g52, g53, g54, _⟩ := hG'.1
    have eM : (cMT true).den ((sEn (some k)).app ρ') = some (encL (arrL (d.stO d.m).M)) := by rw [cMT, fnD (varD e21) (litD 0), g51]; show some (encL (arrL (Mod.of (d.stO d.m).code).M)) = _; rw [Mod.of_code]
    have eS : (cST true).den ((sEn (some k)).app ρ') = some (encL (arrL (d.stO d.m).S)) := by rw [cST, fnD (varD e21) (litD 0), g52]; show some (encL (arrL (Mod.of (d.stO d.m).code).S)) = _; rw [Mod.of_code]
    have eQ : (IT.fn 53 (.var 21) (.lit 0)).den ((sEn (some k)).app ρ') = some (encL (d.stO d.m).Q) := by rw [fnD (varD e21) (litD 0), g53]; show some (encL (Mod.of (d.stO d.m).code).Q) = _; rw [Mod.of_code]
    have eN : nX.den ((sEn (some k)).app ρ') = some ((d.stO d.m).Q.length : Int) := by rw [nX, fnD (varD e21) (litD 0), g54]; show some ((Mod.of (d.stO d.m).code).Q.length : Int) = _; rw [Mod.of_code]
    obtain rfl : vm = rmV vq (d.stO d.m) := Option.some.inj (hvm.symm.trans (rmA_den hvq eM eS))
    have hH : hasQ k (ofP (aH (some k))) = true := by cases k <;> rfl
    obtain ⟨_, q1, q2, q3⟩ := qz_in (z := k) r.h hH hvq hq fun _ => ⟨eQ, eN⟩
    have h13 : (ofP (aH (some k))).get 13 = some rO := by cases k <;> rfl
    have hro := row_out (l := 13) (j := 12) (nT := .var 22) (c := .var 23) rfl r.h h13 hvr (varD (sbI (t := .var 22) rfl (varD hu.i22))) (varD (sbI (t := .var 23) rfl (varD hu.i23)))
    refine ⟨vr, vq, rfl, Framed.of r.h, ?_, .inr ⟨by have := hu.ge; omega, hro⟩⟩
    cases k with
    | nil => exact .inl ⟨hq.1 rfl, .inl (q1.1 rfl)⟩
    | zero =>
      obtain ⟨p, hp, _⟩ := q2 rfl
      exact .inl ⟨hq.1 rfl, .inr ⟨p, hp⟩⟩
    | row =>
      obtain ⟨b, cap, o, hp, hN2, _, ho, hrm, hg2⟩ := q3 rfl
      refine .inr ⟨(fun h => by have := hq.2 h; cases this), b, cap, o, hp, ho, hrm, ?_, fun br n c hv e => ?_⟩
      · rcases r.h.own 2 _ b hg2 rfl hN2 with h9 | ⟨_, hl, _⟩
        · exact h9
        · cases hl
      · obtain ⟨b', o', n', c', hv', hN', _⟩ := den_slice hvr
        rw [hv] at hv'
        cases hv'
        have := r.h.inj 2 13 _ _ hg2 h13 rfl (by rw [hN2, hN', e])
        cases this
theorem replay15 (ok : DOk d) (hk : d.ko = .row) {xs : List Value} (hr : HRel ⟨w, [], Gd d⟩ ρ (ofP (roH (EE d.kl .row))) 500 w) (hx : AVal.denL ρ [SL d.kl, SO .row] = some xs) :
    Calls Try.prog 15 xs.toArray w fun e w' => ∃ v, e = .returned v ∧ RS d w v w' := by
  have hm := ok.m60
  have hsp : CallOk Try.prog ⟨w, [], G15 d⟩ sp15 := spL_ok fun p hp => by
    rw [List.mem_singleton.1 hp]
    exact spApp_ok rfl
  have loop := scanM (β := ⟨w, [], G15 d⟩) (sp := sp15) (f := 15) (fn := Try.f15) (j := 0) (Rs := e15) (Ts := t15 d.kl) (R := RS d w) (T := T15 d.kl) hsp (fun z ρ => ∃ i, J15 d i z ρ) (fun ρ => ((d.m : Int) - ρ.I 9).toNat) fun z ρ ⟨i, j⟩ hG hcs ih => by
    have hi := j.le
    by_cases hlt : i < d.m
    · have e9 : at9.den ρ = some (i : Int) := varD j.i9
      have go := lt9_ok (b := true) j.i9 (pM hG.1) (decide_eq_true hlt)
      have skip : d.inR (d.o i) = false → ∀ s ∈ [go15 z (sSk d.kl z)], MGoodO Try.prog ⟨w, [], G15 d⟩ 15 (RS d w) e15 (t15 d.kl) ρ s := fun hin => one (nextR (ix_t d.kl z) (fun l hl => by cases hl) fun ρ' hle hG' => by
        obtain ⟨jn, hGn⟩ := skip15 (j.of_le hle) hG' hlt hm hin
        exact ⟨hGn, jn.cs ok hk hGn, fun a w' r => ih z _ (by rw [jn.i9, j.i9]; omega) ⟨_, jn⟩ _ a w' (.inl rfl) r⟩)
      rcases inR_ways ok hG.1 (oT_den hG.1 e9) with ⟨hin, hl, f⟩ | ⟨hin, f | f⟩
      · obtain ⟨_, s2, _⟩ := step15 j hG hin
        obtain ⟨e, he⟩ : ∃ e : Bool, e = true ↔ (d.stO (i + 1)).Q = [] := ⟨decide ((d.stO (i + 1)).Q = []), by simp⟩
        obtain ⟨sm, hsm⟩ : ∃ s : Bool, decide (((d.stO (i + 1)).Q.length : Int) = ((d.stO i).Q.length : Int)) = s := ⟨_, rfl⟩
        have hE : CRel ρ (yC z e sm) := by
          refine c1 ?_ ?_
          · unfold eNxt
            simp only [BT.den, s2]
            show some (decide (((d.stO (i + 1)).Q.length : Int) = 0)) = _
            cases e with
            | true => rw [he.1 rfl]; rfl
            | false =>
              have : (d.stO (i + 1)).Q ≠ [] := fun h => by have := he.2 h; cases this
              have := List.length_pos_iff.2 this
              rw [decide_eq_false (by omega)]
          · match z, j, s2 with
            | none, _, _ => exact c0
            | some .nil, _, _ => exact c0
            | some .zero, _, _ => exact c0
            | some .row, j, s2 =>
              refine c1 ?_ c0
              have e54 : nX.den ρ = some ((d.stO i).Q.length : Int) := by
                rw [nX, fnD (varD (j.so _ rfl).2.1) (litD 0), hG.1.2.2.2.2.2.2.2.2.1]
                show some ((Mod.of (d.stO i).code).Q.length : Int) = _
                rw [Mod.of_code]
              have s2 : (nN true).den ρ = some ((d.stO (i + 1)).Q.length : Int) := s2
              unfold eSame
              simp only [BT.den, s2, e54]
              exact congrArg some hsm
        have hrun := r_y z e sm fun hz he' => by
          subst hz
          have hne : (d.stO i).Q ≠ [] := fun h => by have := (j.so _ rfl).2.2.2.2 h; cases this
          have := List.length_pos_iff.2 hne
          rw [← hsm, he.1 he']
          exact decide_eq_false (by simp only [List.length_nil]; omega)
        have cse : ∀ {z ρ}, J15 d (i + 1) z ρ → (G15 d).at ρ → CRel ρ (T15 d.kl z).cs := fun j hG => j.cs ok hk hG
        rw [hl] at hcs ih cse ⊢
        refine ⟨_, _, CRel_app.2 ⟨CRel_app.2 ⟨go, f⟩, hE⟩, hrun, one ?_⟩
        refine nextR (ix_t .row (some (nk e z))) (fun l hl => by cases hl) fun ρ' hle hG' => ?_
        obtain ⟨jn, hGn⟩ := next15 (N := nYs sm e z) (j.of_le hle) hG' hl hlt hm hin he
        exact ⟨hGn, cse jn hGn, fun a w' r => ih _ _ (by rw [jn.i9, j.i9]; omega) ⟨_, jn⟩ _ a w' (.inl rfl) r⟩
      · cases z with
        | none => exact ⟨_, _, CRel_app.2 ⟨go, f⟩, r_b0 _, skip hin⟩
        | some k =>
          have hl := (j.so k rfl).1
          rw [hl] at skip ⊢
          exact ⟨_, _, CRel_app.2 ⟨go, f⟩, r_b1 k, skip hin⟩
      · cases z with
        | none => exact ⟨_, _, CRel_app.2 ⟨go, f⟩, r_c0 _, skip hin⟩
        | some k =>
          have hl := (j.so k rfl).1
          rw [hl] at skip f ⊢
          exact ⟨_, _, CRel_app.2 ⟨go, f⟩, r_c1 k, skip hin⟩
    · obtain rfl : i = d.m := by omega
      have hend := end15 (w := w) j
      cases z with
      | none => exact ⟨_, _, lt9_ok j.i9 (pM hG.1) (decide_eq_false hlt), r_e0 _, one hend⟩
      | some k =>
        have hl := (j.so k rfl).1
        rw [hl] at hend ⊢
        exact ⟨_, _, lt9_ok j.i9 (pM hG.1) (decide_eq_false hlt), r_e1 k, one hend⟩
  have hx' : AVal.denL (env15 d ρ) [SL d.kl, SO .row] = some xs := by
    rw [← hx]
    simp only [AVal.denL, SL_up (ρ := ρ) (ρ2 := env15 d ρ) rfl (fun i hi => env15_I hi), SO_up (ρ := ρ) (ρ2 := env15 d ρ) rfl (fun i hi => env15_I hi)]
  have hr' := start15 hr
  have cs0 := dcE ok hr'.g.1
  rw [hk] at cs0
  refine callM hsp Try.func15 rfl (r_in d.kl) hx' hr' cs0 (one (nextR (ix_t d.kl none) (fun l hl => by cases hl) fun ρ' hle hG' => ?_))
  have jn : J15 d 0 none ((sIn d.kl).app ρ') := ⟨sbI (t := .lit 0) rfl rfl, by omega, fun _ => rfl, fun k h => by cases h⟩
  have hGn : (G15 d).at ((sIn d.kl).app ρ') := ⟨gKeep rfl hG'.1, hG'.2.1, hG'.2.2⟩
  exact ⟨hGn, jn.cs ok hk hGn, fun a w' r => loop none _ ⟨0, jn⟩ _ a w' (.inr rfl) r⟩
end
end Lt
end Go.Proofs.Ytpgonpjakllnjaa
