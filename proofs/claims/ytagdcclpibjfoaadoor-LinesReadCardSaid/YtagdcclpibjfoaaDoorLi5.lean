/-
  Lines (5): the reference's Parse answers what both readers answer; answers as text.
-/
import Derived.Test.YtagdcclpibjfoaaDoorLi4
namespace Go.Proofs.YtagdcclpibjfoaaDoor
open Go.Vm
namespace Txt

section
variable {ρ : Env} {s : ByteArray} {ws : List (List UInt8)}
theorem nRT_den (hS : ρ.S 5 = s) (hF : ρ.F = FP) (hw : FO 30 (encS s) 0 = encW ws) (h : 2 ≤ ws.length) : nRT.den ρ = some ((ws.length - 2 : Nat) : Int) := by
  have e := lN_den hS hF hw
  have el : (IT.lit 2).den ρ = some 2 := rfl
  simp only [nRT, IT.den.eq_13, e, el, univ]
  rw [if_pos (by omega)]
  congr 1; omega
theorem e2T_den {i : Nat} (h : ρ.I 0 = i) : e2T.den ρ = some ((2 + i : Nat) : Int) := by
  simp only [e2T, IT.den, h]
  congr 1
  simp
theorem xT_den (hS : ρ.S 5 = s) (hF : ρ.F = FP) (hw : FO 30 (encS s) 0 = encW ws) {i : Nat} (h : ρ.I 0 = i) : xT.den ρ = bytes (ws.getD (2 + i) []) := by
  have e : FP 30 (encS s) 0 = encW ws := hw
  have e2 := un0_get ws (2 + i)
  simp only [xT, ST.den, PT.den, hS, hF, e, h]
  have e3 : Int.ofNat ((2 : Int).toNat + ((i : Int).toNat * 1 + 0)) = ((2 + i : Nat) : Int) := by simp
  rw [e3, e2, decS_encS]
theorem lnF_ok {t : ST} {l : List UInt8} (h : t.den ρ = bytes l) (hl : l.length ≤ 1000000) : CRel ρ (lnF t) := by
  have el : (IT.lit 9223372036854775807).den ρ = some 9223372036854775807 := rfl
  simp only [lnF, CRel_cons, CRel_nil, and_true, BT.den, IT.den, h, bytes_size, intCmp, Option.some.injEq, decide_eq_true_eq]
  omega
theorem jIn_ok (hS : ρ.S 5 = s) (hF : ρ.F = FP) (hw : FO 30 (encS s) 0 = encW ws) {i : Nat} (h : ρ.I 0 = i) (hi : i + 2 < ws.length) : CRel ρ jIn := by
  have e1 := nRT_den hS hF hw (by omega)
  have e2 := e2T_den h
  have e3 := lN_den hS hF hw
  have el : ∀ n, (IT.lit n).den ρ = some n := fun _ => rfl
  have e0 : (IT.var 0).den ρ = some (i : Int) := by rw [← h]; rfl
  simp only [jIn, CRel_cons, CRel_nil, and_true, BT.den, e0, e1, e2, e3, el, intCmp, Option.some.injEq, decide_eq_true_eq]
  omega
theorem gt0_ok {i : Nat} (h : ρ.I 0 = i) {b : Bool} (hb : decide (0 < i) = b) : CRel ρ [(.cmp .gtr (.var 0) (.lit 0), b)] := by
  have e0 : (IT.var 0).den ρ = some (i : Int) := by rw [← h]; rfl
  have el : (IT.lit 0).den ρ = some 0 := rfl
  simp only [CRel_cons, CRel_nil, and_true, BT.den, e0, el, intCmp, Option.some.injEq]
  rw [← hb]
  exact decide_eq_decide.2 (by omega)
theorem jO_ok (hS : ρ.S 5 = s) (hF : ρ.F = FP) (hw : FO 30 (encS s) 0 = encW ws) {i : Nat} (h : ρ.I 0 = i) (hi : i + 2 = ws.length) : CRel ρ jO := by
  have e1 := nRT_den hS hF hw (by omega)
  have e0 : (IT.var 0).den ρ = some (i : Int) := by rw [← h]; rfl
  simp only [jO, CRel_cons, CRel_nil, and_true, BT.den, e0, e1, intCmp, Option.some.injEq, decide_eq_false_iff_not]
  omega
theorem csJT_ok (hS : ρ.S 5 = s) (hF : ρ.F = FP) (hw : FO 30 (encS s) 0 = encW ws) {i : Nat} (h : ρ.I 0 = i) (hi : i + 2 ≤ ws.length) (h2 : ws.length ≤ 10001) {l : List UInt8} (h0 : ρ.S 0 = bytes l) (hl : l.length ≤ 10000) : CRel ρ csJT := by
  have e1 := nRT_den hS hF hw (by omega)
  have e3 := lN_den hS hF hw
  have el : ∀ n, (IT.lit n).den ρ = some n := fun _ => rfl
  have e0 : (IT.var 0).den ρ = some (i : Int) := by rw [← h]; rfl
  have es : (IT.slen (.var 0)).den ρ = some (l.length : Int) := by simp only [IT.den, ST.den, h0, bytes_size]
  simp only [csJT, CRel_cons, CRel_nil, and_true, BT.den, e0, e1, e3, el, es, intCmp, Option.some.injEq, decide_eq_true_eq]
  omega
theorem bytes_app (a b : List UInt8) : bytes a ++ bytes b = bytes (a ++ b) := by
  apply ByteArray.ext
  show (bytes a ++ bytes b).data = _
  rw [ByteArray.data_append]
  show a.toArray ++ b.toArray = _
  simp [bytes]
def JJ (s : ByteArray) (ws : List (List UInt8)) : Env → Prop := fun ρ => ρ.S 5 = s ∧ ρ.F = FP ∧ ∃ i : Nat, ρ.I 0 = i ∧ i + 2 ≤ ws.length ∧ ρ.S 0 = bytes (joinW ((ws.drop 2).take i))
theorem nextJ {w0 : World} (hw : FO 30 (encS s) 0 = encW ws) (h2 : ws.length ≤ 10001) (hd : (joinW (ws.drop 2)).length ≤ 10000) (hS : ρ.S 5 = s) (hF : ρ.F = FP) {i : Nat} (h : ρ.I 0 = i) (hi : i + 2 < ws.length) {t : ST} (ht : ∀ ρ', ρ.Le ρ' → t.den ρ' = bytes (joinW ((ws.drop 2).take (i + 1)))) (cs : Cs)
    (ih : ∀ ρ', (ws.length - (ρ'.I 0).toNat) < (ws.length - (ρ.I 0).toNat) → JJ s ws ρ' → ∀ todo a w, todo = .inLoop jb :: jk ∨ todo = .code (.loop jb) :: jk → SRel (β64 w0 s) ρ' (JT.st todo) a w → Goes Tryd.prog 64 (fun v w' => v = readV s.data.toList ∧ Framed w0 w') todo a w) :
    SumGood Tryd.prog (β64 w0 s) 64 (fun v => v = readV s.data.toList) [JT] ρ (.next 0 (.inLoop jb :: jk) cs (sgJ t)) := by
  intro ρ' hle _ T hT hG'
  have hT : JT = T := by simpa using hT
  subst hT
  obtain ⟨hS', hF'⟩ : ρ'.S 5 = s ∧ ρ'.F = FP := hG'
  have h' : ρ'.I 0 = i := by rw [hle.i]; exact h
  have q0 : ((sgJ t).app ρ').I 0 = ((i + 1 : Nat) : Int) := by
    show ((IT.bin .add .i64 (.var 0) (.lit 1)).den ρ').getD 0 = _
    simp only [IT.den, h', intBin]
    rw [wrap_ok (by omega) (by omega)]; rfl
  have qs : ((sgJ t).app ρ').S 0 = bytes (joinW ((ws.drop 2).take (i + 1))) := ht ρ' hle
  have hl := take_le (ws.drop 2) (i + 1)
  refine ⟨⟨hS', hF'⟩, csJT_ok (s := s) (ws := ws) hS' hF' hw q0 (by omega) h2 qs (by omega), fun a w r => ih ((sgJ t).app ρ') ?_ ⟨hS', hF', i + 1, q0, by omega, qs⟩ _ a w (.inl rfl) r⟩
  rw [q0, h]
  omega
theorem loopJ {w0 : World} (hT : TabW w0) (hM : MaxW w0) (hE : ErrW w0) (hs : s.size ≤ 10000) (hw : FO 30 (encS s) 0 = encW ws) (hws : ws = wordsOf s.data.toList) (hk : evK.idxOf (ws.getD 0 []) = 1) : ∀ ρ, JJ s ws ρ → ∀ todo a w, todo = .inLoop jb :: jk ∨ todo = .code (.loop jb) :: jk → SRel (β64 w0 s) ρ (JT.st todo) a w → Goes Tryd.prog 64 (fun v w' => v = readV s.data.toList ∧ Framed w0 w') todo a w := by
  refine loop_goesS (n := 8000) (Ts := [JT]) (pl := plJ) (g := g4L) (Q := fun v => v = readV s.data.toList) (β := β64 w0 s) noCount ext1_ok (sp64_ok w0 s hT hM hE) follows rfl (JJ s ws) (fun ρ => ws.length - (ρ.I 0).toNat) (fun ρ hJ hH hcs hG ih => ?_)
  obtain ⟨hS, hF, i, h0, hi, hSt⟩ := hJ
  have hin : WordsIn ws s.data.toList := by rw [hws]; exact words_in _
  have hsz : s.data.toList.length = s.size := by simp
  have hlen := hin.len
  have hd := drop_le ws 2
  rw [hin.join] at hd
  have one : ∀ {l : LS}, SumGood Tryd.prog (β64 w0 s) 64 (fun v => v = readV s.data.toList) [JT] ρ l → ∀ x ∈ [l], SumGood Tryd.prog (β64 w0 s) 64 (fun v => v = readV s.data.toList) [JT] ρ x := fun h x hx => by rw [List.mem_singleton.1 hx]; exact h
  have hl := take_le (ws.drop 2) i
  have gd : ∀ k, (ws.drop 2).getD k [] = ws.getD (2 + k) [] := fun k => by
    rw [List.getD_eq_getElem?_getD, List.getD_eq_getElem?_getD, List.getElem?_drop]
  have xd : ∀ ρ', ρ.Le ρ' → xT.den ρ' = bytes ((ws.drop 2).getD i []) := fun ρ' hle => by
    rw [gd]
    exact xT_den (by rw [hle.s]; exact hS) (by rw [hle.f]; exact hF) hw (by rw [hle.i]; exact h0)
  have vd : ∀ ρ', ρ.Le ρ' → (ST.var 0).den ρ' = bytes (joinW ((ws.drop 2).take i)) := fun ρ' hle => by
    show ρ'.S 0 = _
    rw [hle.s]; exact hSt
  have hxl : ((ws.drop 2).getD i []).length ≤ 10000 := by
    rcases Nat.lt_or_ge i (ws.drop 2).length with hlt | hge
    · have := word_le (getD_mem hlt)
      omega
    · rw [List.getD_eq_getElem?_getD, List.getElem?_eq_none hge]; simp
  have hb32 : ∀ ρ' : Env, (ST.lit [32]).den ρ' = bytes [32] := fun _ => rfl
  rcases Nat.lt_or_ge (i + 2) ws.length with hlt | hge
  · have cJ := jIn_ok hS hF hw h0 hlt
    have hil : i < (ws.drop 2).length := by simp; omega
    cases i with
    | zero =>
      have c1 : ∀ ρ', ρ.Le ρ' → (ST.cat (.var 0) xT).den ρ' = bytes (joinW ((ws.drop 2).take 1)) := fun ρ' hle => by
        simp only [ST.den.eq_3, vd ρ' hle, xd ρ' hle, bytes_app]
        congr 1
        match hdw : ws.drop 2, hil with
        | x :: r, _ => simp [joinW]
      have hlen1 := take_le (ws.drop 2) 1
      refine ⟨_, _, CRel_apd.2 ⟨CRel_apd.2 ⟨CRel_apd.2 ⟨cJ, gt0_ok h0 rfl⟩, lnF_ok (c1 ρ (Env.Le.refl ρ)) (by omega)⟩, hcs⟩, rjA, one (nextJ hw (by omega) (by omega) hS hF h0 hlt c1 _ ih)⟩
    | succ i =>
      have c0 : ∀ ρ', ρ.Le ρ' → (ST.cat (.var 0) (.lit [32])).den ρ' = bytes (joinW ((ws.drop 2).take (i + 1)) ++ [32]) := fun ρ' hle => by
        simp only [ST.den.eq_3, vd ρ' hle, hb32, bytes_app]
      have c1 : ∀ ρ', ρ.Le ρ' → (ST.cat (.cat (.var 0) (.lit [32])) xT).den ρ' = bytes (joinW ((ws.drop 2).take (i + 2))) := fun ρ' hle => by
        rw [ST.den.eq_3, c0 ρ' hle, xd ρ' hle, bytes_app, join_succ _ _ hil]
      have hlen1 := take_le (ws.drop 2) (i + 2)
      refine ⟨_, _, CRel_apd.2 ⟨CRel_apd.2 ⟨CRel_apd.2 ⟨CRel_apd.2 ⟨cJ, gt0_ok h0 (by simp)⟩, lnF_ok (c0 ρ (Env.Le.refl ρ)) (by simp; omega)⟩, lnF_ok (c1 ρ (Env.Le.refl ρ)) (by omega)⟩, hcs⟩, rjB, one (nextJ hw (by omega) (by omega) hS hF h0 hlt c1 _ ih)⟩
  · have hi2 : i + 2 = ws.length := by omega
    have cO := jO_ok hS hF hw h0 hi2
    have htk : (ws.drop 2).take i = ws.drop 2 := List.take_of_length_le (by simp; omega)
    rw [htk] at hSt vd
    have hkx : kidx (ws.getD 0 []) = 1 := by rw [kidx_of, hk]; rfl
    have hlb : lb (encS (ρ.S 0)) = joinW (ws.drop 2) := by rw [lb_enc, hSt, bytes_toList]
    have fd : ∀ ρ', ρ.Le ρ' → ∀ k, (IT.fn k (.scode (.var 0)) (.lit 0)).den ρ' = some (FP k (encS (ρ.S 0)) 0) := fun ρ' hle k => by
      simp only [IT.den, ST.den, hle.s, hle.f, hF]
    have eP : (BT.cmp .eql (.fn 40 (.scode (.var 0)) (.lit 0)) (.lit 1)).den ρ = some (parOk (wordsOf (joinW (ws.drop 2)))) := by
      have e := fd ρ (Env.Le.refl ρ) 40
      rw [show FP 40 (encS (ρ.S 0)) 0 = if parOk (wordsOf (lb (encS (ρ.S 0)))) = true then 1 else 0 from rfl, hlb] at e
      have el : (IT.lit 1).den ρ = some 1 := rfl
      simp only [BT.den, e, el, intCmp]
      rw [one1]
    have d8 : ∀ ρ', ρ.Le ρ' → Den8 ρ' evP (refE ws) := fun ρ' hle => by
      have e1 := wN_den (ρ := ρ') (by rw [hle.s]; exact hS) (by rw [hle.f]; exact hF) hw 1
      unfold refE
      simp only [hkx]
      refine ⟨rfl, e1, rfl, rfl, ?_, ?_, ?_, ?_⟩
      · show (IT.fn 41 (.scode (.var 0)) (.lit 0)).den ρ' = _
        rw [fd ρ' hle, show FP 41 (encS (ρ.S 0)) 0 = pqC (wordsOf (lb (encS (ρ.S 0)))) from rfl, hlb]; simp
      · show (IT.fn 42 (.scode (.var 0)) (.lit 0)).den ρ' = _
        rw [fd ρ' hle, show FP 42 (encS (ρ.S 0)) 0 = pqK (wordsOf (lb (encS (ρ.S 0)))) from rfl, hlb]; simp
      · show (IT.fn 43 (.scode (.var 0)) (.lit 0)).den ρ' = _
        rw [fd ρ' hle, show FP 43 (encS (ρ.S 0)) 0 = pqA (wordsOf (lb (encS (ρ.S 0)))) from rfl, hlb]; simp
      · show (IT.fn 44 (.scode (.var 0)) (.lit 0)).den ρ' = _
        rw [fd ρ' hle, show FP 44 (encS (ρ.S 0)) 0 = pqB (wordsOf (lb (encS (ρ.S 0)))) from rfl, hlb]; simp
    have retN : ∀ cs, ¬ refOk ws → SumGood Tryd.prog (β64 w0 s) 64 (fun v => v = readV s.data.toList) [JT] ρ (.ret retZ cs) := fun cs hn ρ' hle _ x hx => by
      have e := (retZ_den (ρ := ρ')).symm.trans hx
      rw [← Option.some.inj e]
      unfold readV
      rw [← hws, if_neg hn]
    cases hp : parOk (wordsOf (joinW (ws.drop 2))) with
    | false =>
      rw [hp] at eP
      exact ⟨_, _, CRel_apd.2 ⟨CRel_apd.2 ⟨cO, bnn_ok eP⟩, hcs⟩, rjO0, one (retN _ fun hr => by have := hr.2.1 hkx; rw [hp] at this; cases this)⟩
    | true =>
      rw [hp] at eP
      have eE := (d8 ρ (Env.Le.refl ρ)).eT hF
      cases hb : evB (refE ws) with
      | false =>
        rw [hb] at eE
        exact ⟨_, _, CRel_apd.2 ⟨CRel_apd.2 ⟨CRel_apd.2 ⟨cO, bnn_ok eP⟩, bnn_ok eE⟩, hcs⟩, rjO1, one (retN _ fun hr => by have := hr.2.2.2.2; rw [hb] at this; cases this)⟩
      | true =>
        rw [hb] at eE
        refine ⟨_, _, CRel_apd.2 ⟨CRel_apd.2 ⟨CRel_apd.2 ⟨cO, bnn_ok eP⟩, bnn_ok eE⟩, hcs⟩, rjO2, one (fun ρ' hle _ x hx => ?_)⟩
        have e := ((d8 ρ' hle).ret).symm.trans hx
        rw [← Option.some.inj e]
        unfold readV
        rw [← hws, if_pos ⟨by omega, fun _ => hp, fun h => absurd h (by rw [hkx]; decide), fun h => absurd hkx h, hb⟩]
end
theorem parse64a (w : World) (hT : TabW w) (hM : MaxW w) (hE : ErrW w) (s : ByteArray) (hs : s.size ≤ 10000) : Calls Tryd.prog 64 #[.string s] w (fun e w' => e = .returned (readV s.data.toList) ∧ Framed w w') := by
  obtain ⟨ws, hws⟩ : ∃ ws, ws = wordsOf s.data.toList := ⟨_, rfl⟩
  have hw : FO 30 (encS s) 0 = encW ws := by rw [hws]; exact fo30 s
  obtain ⟨l1, l2⟩ := words_len s
  rw [← hws] at l1 l2
  obtain ⟨ρ, hρ⟩ : ∃ ρ : Env, ρ = ⟨fun _ => 0, fun _ => false, fun _ => s, fun _ => undef, fun _ => none, FP⟩ := ⟨_, rfl⟩
  have hS : ∀ k, ρ.S k = s := fun k => by rw [hρ]
  have hF : ρ.F = FP := by rw [hρ]
  have hN : ∀ i, ρ.N i = none := fun i => by rw [hρ]
  have hx : AVal.denL ρ [.str (.var 5)] = some [.string s] := by rw [hρ]; rfl
  have hr : HRel (β64 w s) ρ .leaf 0 w := HRel.startG w _ hN ⟨hS 5, hF⟩
  have e := lN_den (hS 5) hF hw
  have cA := csA_ok (hS 5) hF hw hs l1 (by omega)
  have hle : evK.idxOf (ws.getD 0 []) ≤ 6 := List.idxOf_le_length
  have hkx := kidx_of ws
  have hA := a_all hle
  have go : ∀ {cs : Cs} {u : AVal} {v : Value}, Run64 cs u → CRel ρ cs → (∀ ρ', ρ.Le ρ' → u.den ρ' = some v) → Calls Tryd.prog 64 #[.string s] w (fun e w' => e = .returned v ∧ Framed w w') := fun {cs u v} hrun hcs hu =>
    calls_ret (β := β64 w s) (ρ := ρ) ext1_ok (sp64_ok w s hT hM hE) rfl Tryd.func64 rfl hrun hx hr hcs hu
  have no : ¬ refOk ws → readV s.data.toList = .tuple #[evV .z, .bool false] := fun h => by unfold readV; rw [← hws, if_neg h]
  by_cases h2 : ws.length < 2
  · rw [no fun h => by have := h.1; omega]
    exact go hA.1 (CRel_apd.2 ⟨f2_ok e (decide_eq_true h2), cA⟩) fun _ _ => rfl
  · have c2 := f2_ok (ρ := ρ) e (decide_eq_false h2)
    have cI := fIx_ok (ρ := ρ) e (by omega)
    by_cases hc : evK.idxOf (ws.getD 0 []) = 1
    · have cL : CRel ρ csL := CRel_apd.2 ⟨CRel_apd.2 ⟨c2, cI⟩, by rw [hc] at cA; exact cA⟩
      have := calls_sums (β := β64 w s) (Q := fun v => v = readV s.data.toList) noCount ext1_ok (sp64_ok w s hT hM hE) follows rfl Tryd.func64 rfl rL hx hr cL (fun q hq => ?_)
      · exact this.mono fun _ _ ⟨_, he, hv, hf⟩ => ⟨by rw [he, hv], hf⟩
      · simp only [sums64, List.mem_singleton] at hq
        subst hq
        intro ρ' hle' _ T hT' hG'
        have hT' : JT = T := by simpa using hT'
        subst hT'
        obtain ⟨hS', hF'⟩ : ρ'.S 5 = s ∧ ρ'.F = FP := hG'
        refine ⟨⟨hS', hF'⟩, csJT_ok (s := s) (ws := ws) (i := 0) (l := []) hS' hF' hw rfl (by omega) (by omega) rfl (by simp), fun a w' r => loopJ hT hM hE hs hw hws hc ((⟨[(0, (.lit 0))], [], [(0, (.lit []))], [], [(0, 0), (1, 1), (3, 3), (2, 2), (4, 4)]⟩ : Sub).app ρ') ⟨hS', hF', 0, rfl, by omega, rfl⟩ _ a w' (.inr rfl) r⟩
    · obtain ⟨rB, rC, rD⟩ := hA.2 hc
      have hk1 : kidx (ws.getD 0 []) ≠ 1 := by
        rw [hkx]; split <;> omega
      have mEq : (evK.idxOf (ws.getD 0 []) = 4 ∨ evK.idxOf (ws.getD 0 []) = 5) ↔ 3 < kidx (ws.getD 0 []) := by
        rw [hkx]; split <;> omega
      by_cases hm : (ws.length : Int) = mW (evK.idxOf (ws.getD 0 []))
      · have cM := fM_ok (ρ := ρ) (ws := ws) (c := evK.idxOf (ws.getD 0 [])) e (b := false) (decide_eq_false fun h => h hm)
        have c3 := f3c_ok (ρ := ρ) e hm
        have d8 : ∀ ρ', ρ.Le ρ' → Den8 ρ' (evF (evK.idxOf (ws.getD 0 []))) (refE ws) := fun ρ' hle' => evF_den (by rw [hle'.s]; exact hS 5) (by rw [hle'.f]; exact hF) hw hc
        have eE := (d8 ρ (Env.Le.refl ρ)).eT hF
        cases hb : evB (refE ws) with
        | false =>
          rw [hb] at eE
          rw [no fun h => by have := h.2.2.2.2; rw [hb] at this; cases this]
          exact go rC (CRel_apd.2 ⟨CRel_apd.2 ⟨CRel_apd.2 ⟨CRel_apd.2 ⟨CRel_apd.2 ⟨bnn_ok eE, cM⟩, c2⟩, cI⟩, c3⟩, cA⟩) fun _ _ => rfl
        | true =>
          rw [hb] at eE
          have hv : readV s.data.toList = .tuple #[evV (refE ws), .bool true] := by
            unfold readV
            rw [← hws, if_pos]
            refine ⟨by omega, fun h => absurd h hk1, fun h => ?_, fun _ h => ?_, hb⟩
            · rw [mW, if_pos (mEq.2 h)] at hm; omega
            · rw [mW, if_neg (fun q => by have := mEq.1 q; omega)] at hm; omega
          rw [hv]
          exact go rD (CRel_apd.2 ⟨CRel_apd.2 ⟨CRel_apd.2 ⟨CRel_apd.2 ⟨CRel_apd.2 ⟨bnn_ok eE, cM⟩, c2⟩, cI⟩, c3⟩, cA⟩) fun ρ' hle' => (d8 ρ' hle').ret
      · have cM := fM_ok (ρ := ρ) (ws := ws) (c := evK.idxOf (ws.getD 0 [])) e (b := true) (decide_eq_true hm)
        rw [no fun h => ?_]
        · exact go rB (CRel_apd.2 ⟨CRel_apd.2 ⟨CRel_apd.2 ⟨cM, c2⟩, cI⟩, cA⟩) fun _ _ => rfl
        · by_cases h3 : 3 < kidx (ws.getD 0 [])
          · have := h.2.2.1 h3
            rw [mW, if_pos (mEq.2 h3)] at hm; omega
          · have := h.2.2.2.1 hk1 (by omega)
            rw [mW, if_neg (fun q => h3 (mEq.1 q))] at hm; omega
end Txt
end Go.Proofs.YtagdcclpibjfoaaDoor
