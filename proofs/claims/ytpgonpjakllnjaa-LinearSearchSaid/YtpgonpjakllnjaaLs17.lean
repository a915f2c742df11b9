/-
  LinearSearch (17): Search, of any history.
-/
import Derived.Test.YtpgonpjakllnjaaLs16
import Derived.Test.YtpgonpjakllnjaaLt34
namespace Go.Proofs.Ytpgonpjakllnjaa
open Go.Vm Go.Vm.Md Lm Lt
namespace Ls

theorem scan7 {β : Base} {R : Value → World → Prop} (J : Kq → Env → Prop) (μ : Env → Nat)
    (hs : ∀ z ρ, J z ρ → GP.at β.G ρ → CRel ρ (TSe z).cs → (∀ z' ρ', μ ρ' < μ ρ → J z' ρ' → ∀ todo a w, todo = .inLoop L7 :: Q7 ∨ todo = .code (.loop L7) :: Q7 → SRel β ρ' ((TSe z').st todo) a w → Goes Try.prog 7 R todo a w) → ∃ pl sp c l, CallOk Try.prog β sp ∧ CRel ρ c ∧ R7 pl sp z c l ∧ MGoodO Try.prog β 7 R rsS tsS ρ l) :
    ∀ z ρ, J z ρ → ∀ todo a w, todo = .inLoop L7 :: Q7 ∨ todo = .code (.loop L7) :: Q7 → SRel β ρ ((TSe z).st todo) a w → Goes Try.prog 7 R todo a w := by
  suffices H : ∀ N z ρ, μ ρ = N → J z ρ → ∀ todo a w, todo = .inLoop L7 :: Q7 ∨ todo = .code (.loop L7) :: Q7 → SRel β ρ ((TSe z).st todo) a w → Goes Try.prog 7 R todo a w from fun z ρ => H _ z ρ rfl
  intro N
  induction N using Nat.strongRecOn with
  | _ N ih =>
    intro z ρ hN hJ todo a w htd r
    obtain ⟨pl, sp, c, l, hsp, h1, h2, h3⟩ := hs z ρ hJ r.h.g r.c fun z' ρ' hlt hJ' todo' a' w' ht' r' => ih (μ ρ') (by omega) z' ρ' rfl hJ' todo' a' w' ht' r'
    obtain ⟨ls, hls, hsum⟩ := Option.map_eq_some_iff.1 h2
    have key : Goes Try.prog 7 R (.code L7 :: .inLoop L7 :: Q7) a w := run_sound noCount noExt hsp follows 4000 pl 7 _ ls ρ a w _ hls ⟨r.d, r.n, r.t, r.h, CRel_app.2 ⟨h1, r.c⟩⟩ (m_allO (g := gM) (L := []) (sums := ls.filterMap (sumMO gM [] rsS tsS)) rfl (dcsM hsum (Go.Vm.one h3)))
    rcases htd with rfl | rfl
    · exact Goes.one (fun cs => step_inLoop) key
    · exact Goes.one (fun cs => step_loop) key
/-- What Search answers. -/
def SPd (d : Dt) : Option (List Int) := if 8 < (ivs d).length then none else if muA d = [] then some [] else sRes d
def SPost (d : Dt) (w : World) (v : Value) (w' : World) : Prop := Framed w w' ∧ (SPd d = none → v = .tuple #[.slice none 0 0, .bool false]) ∧ ∀ R, SPd d = some R → ∃ vo, v = .tuple #[vo, .bool true] ∧ (R = [] ∧ vo = .slice none 0 0 ∨ R ≠ [] ∧ RowOut w w' vo 3 [.i64] R R.length)
structure JS (d : Dt) (q : Kq) (i : Nat) (ρ : Env) : Prop where
  i9 : ρ.I 9 = (i : Int)
  le : i ≤ (ivs d).length
  l : q ≠ .nn → ρ.I 20 = encL (lfI d i) ∧ ρ.I 21 = ((lfI d i).length : Int)
  m : q = .rr → ρ.I 22 = encL (muI d i) ∧ ρ.I 23 = ((muI d i).length : Int) ∧ muI d i ≠ []
  ln : q = .nn → lfI d i = []
  mn : q ≠ .rr → muI d i = []
theorem JS.of_le {d : Dt} {q : Kq} {i : Nat} {ρ ρ' : Env} (h : JS d q i ρ) (g : ρ.Le ρ') : JS d q i ρ' := ⟨by rw [g.i]; exact h.i9, h.le, by rw [g.i]; exact h.l, by rw [g.i]; exact h.m, h.ln, h.mn⟩
section
variable {d : Dt} {ρ : Env} {w : World}
theorem pIv (h : (Gx d).at ρ) : (IT.var 47).den ρ = some (encL (ivs d)) := pin h.1 (by simp [pins, ivs])
theorem pIn (h : (Gx d).at ρ) : (IT.var 48).den ρ = some ((ivs d).length : Int) := pin h.1 (by simp [pins, ivs])
theorem vT_den (h : (Gx d).at ρ) {i : Nat} (hi : ρ.I 9 = (i : Int)) : vT.den ρ = some ((ivs d).getD i 0) := by
  refine (unD (pIv h) (elemD (sz := 1) (j := 0) (litD ((0 : Nat) : Int)) (show at9.den ρ = some (i : Int) from varD hi))).trans ?_
  show some ((decL (encL (ivs d))).getD (((0 + (i * 1 + 0) : Nat) : Int)).toNat 0) = _
  rw [Int.toNat_natCast, show 0 + (i * 1 + 0) = i by omega, decL_encL]
theorem iv60 (ok : DOk d) : (ivs d).length ≤ 60 := by
  have h1 := d.iv_le d.n
  have h2 := ok.n60
  show (d.iv d.n).length ≤ 60
  omega
theorem JS.cs (ok : DOk d) (hl : d.kl = .row) {q : Kq} {i : Nat} (j : JS d q i ρ) (h : (Gx d).at ρ) : CRel ρ (TSe q).cs := by
  have h60 := iv60 ok
  have g := dcL ok h.1
  rw [hl] at g
  have hll := lf_len (d := d) i
  have hmm := mu_len (d := d) i
  have := j.le
  refine CRel_app.2 ⟨CRel_app.2 ⟨CRel_app.2 ⟨cs9_ok j.i9 (pIn h) j.le, n60 _ h60 (pIn h)⟩, g⟩, ?_⟩
  cases q with
  | nn => exact fun p hp => by cases hp
  | nr => exact n60 _ (by omega) (varD (j.l (by simp)).2)
  | rr => exact CRel_app.2 ⟨n60 _ (by omega) (varD (j.l (by simp)).2), n60 _ (by omega) (varD (j.m rfl).2.1)⟩
theorem gxKeep {σ : Sub} (hs : (σ.I.all fun p => Nat.blt p.1 30) = true) (h : (Gx d).at ρ) : (Gx d).at (σ.app ρ) := by
  refine ⟨gKeep hs h.1, fun p hp => ?_⟩
  have h30 : 30 ≤ p.1 := by
    have h : ((pinsX d).all fun p => Nat.ble 30 p.1) = true := rfl
    exact Nat.le_of_ble_eq_true (List.all_eq_true.1 h p hp)
  rw [keep30 hs ρ h30]; exact h.2 p hp
theorem search_loop (ok : DOk d) (hl : d.kl = .row) (hne : ivs d ≠ []) :
    ∀ q ρ, (∃ i, JS d q i ρ) → ∀ todo a w', todo = .inLoop L7 :: Q7 ∨ todo = .code (.loop L7) :: Q7 → SRel ⟨w, [], Gx d⟩ ρ ((TSe q).st todo) a w' → Goes Try.prog 7 (SPost d w) todo a w' := by
  have h60 := iv60 ok
  have hz : (false : Bool) = true ↔ ivs d = [] := ⟨(fun h => by cases h), fun h => absurd h hne⟩
  have spn : CallOk Try.prog ⟨w, [], Gx d⟩ (spSn false) := spL_ok fun p hp => by
    simp only [List.mem_cons, List.not_mem_nil, or_false] at hp
    rcases hp with rfl | rfl
    · exact spInvX_ok rfl ok hl hz
    · exact spNew_ok
  have hR60 : ((sRes d).getD []).length ≤ 60 := by
    have hll : (lfA d).length ≤ (ivs d).length := lf_len _
    cases hs : sRes d with
    | none => exact Nat.zero_le _
    | some R =>
      have h1 : R.length ≤ ([] : List Int).length + (lfA d).length := onP_len (d := d1 d 0) hs
      simp only [List.length_nil] at h1
      show R.length ≤ 60
      omega
  have spe : muA d ≠ [] → CallOk Try.prog ⟨w, [], Gx d⟩ (spSe false) := fun hmu => spL_ok fun p hp => by
    simp only [List.mem_cons, List.not_mem_nil, or_false] at hp
    rcases hp with rfl | rfl | rfl | rfl
    · exact spInvX_ok rfl ok hl hz
    · exact spNew_ok
    · exact spOn0_ok rfl ok hl hmu
    · exact spClO_ok rfl hR60
  have doneS : ∀ {n : Nat} {T : Tpl} {ρ : Env} {b : Bool}, rsS[n]? = some T → T = (if b = true then eNil else eNo) → (if b = true then SPd d = some [] else SPd d = none) → MGoodO Try.prog ⟨w, [], Gx d⟩ 7 (SPost d w) rsS tsS ρ (.done n [] sN0) := fun {n T ρ b} hT hTe hsp => doneR hT (fun l h => by cases h) fun ρ' hle hG => ⟨gxKeep rfl hG, (by rw [hTe]; cases b <;> exact fun p hp => by cases hp), fun x w2 r => by
    cases b with
    | true =>
      rw [hTe] at r
      obtain ⟨y, hy, he⟩ := r.t 0 _ rfl
      obtain rfl : x = y := Option.some.inj he
      obtain rfl : x = .tuple #[.slice none 0 0, .bool true] := (Option.some.inj hy).symm
      have h2 : SPd d = some [] := hsp
      exact ⟨Framed.of r.h, (fun h => by rw [h2] at h; cases h), fun R h => by rw [h2] at h; cases h; exact ⟨_, rfl, .inl ⟨rfl, rfl⟩⟩⟩
    | false =>
      rw [hTe] at r
      obtain ⟨y, hy, he⟩ := r.t 0 _ rfl
      obtain rfl : x = y := Option.some.inj he
      obtain rfl : x = .tuple #[.slice none 0 0, .bool false] := (Option.some.inj hy).symm
      have h2 : SPd d = none := hsp
      exact ⟨Framed.of r.h, (fun _ => rfl), fun R h => by rw [h2] at h; cases h⟩⟩
  refine scan7 (fun q ρ => ∃ i, JS d q i ρ) (fun ρ => (((ivs d).length : Int) - ρ.I 9).toNat) fun q ρ ⟨i, j⟩ hg hcs ih => ?_
  have hd := hg.1
  have e9 : at9.den ρ = some (i : Int) := varD j.i9
  have hi := j.le
  by_cases hlt : i < (ivs d).length
  · have ev : vT.den ρ = some ((ivs d).getD i 0) := vT_den hg j.i9
    have hmem : (ivs d).getD i 0 ∈ ivs d := by
      rw [List.getD_eq_getElem?_getD, List.getElem?_eq_getElem hlt, Option.getD_some]; exact List.getElem_mem _
    have go : CRel ρ go7 := CRel_app.2 ⟨lt9_ok j.i9 (pIn hg) (decide_eq_true hlt), inL_ok hd ev (ivs_in hmem)⟩
    have hll := lf_len (d := d) i
    have hmm := mu_len (d := d) i
    have keepQ : d.refd ((ivs d).getD i 0) = true → MGoodO Try.prog ⟨w, [], Gx d⟩ 7 (SPost d w) rsS tsS ρ (.next (qS q) (.inLoop L7 :: Q7) [] (s7k q)) := fun hr => nextR (T := TSe q) (by cases q <;> rfl) (fun l h => by cases h) fun ρ' hle hG => by
      have j' := j.of_le hle
      have jn : JS d q (i + 1) ((s7k q).app ρ') := by
        refine ⟨sbI (t := up9) (by cases q <;> rfl) (upD (varD j'.i9) (by omega)), hlt, fun h => ?_, fun h => ?_, fun h => ?_, fun h => ?_⟩
        · rw [lfI, if_pos hr]
          cases q with
          | nn => exact absurd rfl h
          | nr => exact ⟨sbI (t := .var 20) rfl (varD (j'.l h).1), sbI (t := .var 21) rfl (varD (j'.l h).2)⟩
          | rr => exact ⟨sbI (t := .var 20) rfl (varD (j'.l h).1), sbI (t := .var 21) rfl (varD (j'.l h).2)⟩
        · subst h
          rw [muI, if_pos hr]
          exact ⟨sbI (t := .var 22) rfl (varD (j'.m rfl).1), sbI (t := .var 23) rfl (varD (j'.m rfl).2.1), (j'.m rfl).2.2⟩
        · rw [lfI, if_pos hr]; exact j'.ln h
        · rw [muI, if_pos hr]; exact j'.mn h
      have hGn : (Gx d).at ((s7k q).app ρ') := gxKeep (by cases q <;> rfl) hG
      exact ⟨hGn, jn.cs ok hl hGn, fun a w' r => ih q _ (by rw [jn.i9, j.i9]; omega) ⟨_, jn⟩ _ a w' (.inl rfl) r⟩
    have nil1 : ∀ {ρ' : Env} {v : Int}, vT.den ρ' = some v → l1T.den ρ' = some (encL [v]) := fun h => snoc_den (L := []) nil_den h
    have upl : ∀ {ρ' : Env} {x : Nat} {L : List Int} {v : Int}, ρ'.I x = (L.length : Int) → L.length ≤ 60 → (IT.bin .add .i64 (.var x) (.lit 1)).den ρ' = some (((L ++ [v]).length : Nat) : Int) := fun h hL => by
      rw [List.length_append]
      exact upD (varD h) (by omega)
    rcases refd_ways4 hd ev with ⟨hr, f⟩ | ⟨hr, f⟩ | ⟨hr, hen, f⟩ | ⟨hr, hen, f⟩
    · exact ⟨_, _, _, _, spn, CRel_app.2 ⟨go, f⟩, s_A q, keepQ hr⟩
    · exact ⟨_, _, _, _, spn, CRel_app.2 ⟨go, f⟩, s_B q, keepQ hr⟩
    · refine ⟨_, _, _, _, spn, CRel_app.2 ⟨go, f⟩, s_C q, nextR (T := TSe .rr) rfl (fun l h => by cases h) fun ρ' hle hG => ?_⟩
      have j' := j.of_le hle
      have ev' := IT.den_mono hle ev
      have hlf : lfI d (i + 1) = lfI d i ++ [(ivs d).getD i 0] := by rw [lfI, if_neg (by rw [hr]; decide)]
      have hmu : muI d (i + 1) = muI d i ++ [(ivs d).getD i 0] := by rw [muI, if_neg (by rw [hr]; decide), if_pos hen]
      have jn : JS d .rr (i + 1) ((s7c q).app ρ') := by
        refine ⟨sbI (t := up9) (by cases q <;> rfl) (upD (varD j'.i9) (by omega)), hlt, fun _ => ?_, fun _ => ?_, (fun h => by cases h), fun h => absurd rfl h⟩
        · rw [hlf]
          cases q with
          | nn => rw [j'.ln rfl]; exact ⟨sbI (t := l1T) rfl (nil1 ev'), sbI (t := .lit 1) rfl rfl⟩
          | nr => exact ⟨sbI (t := lA) rfl (snoc_den (varD (j'.l (by simp)).1) ev'), sbI (t := u21) rfl (upl (j'.l (by simp)).2 (by omega))⟩
          | rr => exact ⟨sbI (t := lA) rfl (snoc_den (varD (j'.l (by simp)).1) ev'), sbI (t := u21) rfl (upl (j'.l (by simp)).2 (by omega))⟩
        · rw [hmu]
          cases q with
          | nn => rw [j'.mn (by simp)]; exact ⟨sbI (t := l1T) rfl (nil1 ev'), sbI (t := .lit 1) rfl rfl, by simp⟩
          | nr => rw [j'.mn (by simp)]; exact ⟨sbI (t := l1T) rfl (nil1 ev'), sbI (t := .lit 1) rfl rfl, by simp⟩
          | rr => exact ⟨sbI (t := mA) rfl (snoc_den (varD (j'.m rfl).1) ev'), sbI (t := u23) rfl (upl (j'.m rfl).2.1 (by omega)), by simp⟩
      have hGn : (Gx d).at ((s7c q).app ρ') := gxKeep (by cases q <;> rfl) hG
      exact ⟨hGn, jn.cs ok hl hGn, fun a w' r => ih .rr _ (by rw [jn.i9, j.i9]; omega) ⟨_, jn⟩ _ a w' (.inl rfl) r⟩
    · refine ⟨_, _, _, _, spn, CRel_app.2 ⟨go, f⟩, s_D q, nextR (T := TSe (kD7 q)) (by cases q <;> rfl) (fun l h => by cases h) fun ρ' hle hG => ?_⟩
      have j' := j.of_le hle
      have ev' := IT.den_mono hle ev
      have hlf : lfI d (i + 1) = lfI d i ++ [(ivs d).getD i 0] := by rw [lfI, if_neg (by rw [hr]; decide)]
      have hmu : muI d (i + 1) = muI d i := by rw [muI, if_neg (by rw [hr]; decide), if_neg (by rw [hen]; decide)]
      have jn : JS d (kD7 q) (i + 1) ((s7d q).app ρ') := by
        refine ⟨sbI (t := up9) (by cases q <;> rfl) (upD (varD j'.i9) (by omega)), hlt, fun _ => ?_, fun h => ?_, (fun h => by cases q <;> cases h), fun h => ?_⟩
        · rw [hlf]
          cases q with
          | nn => rw [j'.ln rfl]; exact ⟨sbI (t := l1T) rfl (nil1 ev'), sbI (t := .lit 1) rfl rfl⟩
          | nr => exact ⟨sbI (t := lA) rfl (snoc_den (varD (j'.l (by simp)).1) ev'), sbI (t := u21) rfl (upl (j'.l (by simp)).2 (by omega))⟩
          | rr => exact ⟨sbI (t := lA) rfl (snoc_den (varD (j'.l (by simp)).1) ev'), sbI (t := u21) rfl (upl (j'.l (by simp)).2 (by omega))⟩
        · rw [hmu]
          cases q with
          | nn => cases h
          | nr => cases h
          | rr => exact ⟨sbI (t := .var 22) rfl (varD (j'.m rfl).1), sbI (t := .var 23) rfl (varD (j'.m rfl).2.1), (j'.m rfl).2.2⟩
        · rw [hmu]
          cases q with
          | nn => exact j'.mn (by simp)
          | nr => exact j'.mn (by simp)
          | rr => exact absurd rfl h
      have hGn : (Gx d).at ((s7d q).app ρ') := gxKeep (by cases q <;> rfl) hG
      exact ⟨hGn, jn.cs ok hl hGn, fun a w' r => ih (kD7 q) _ (by rw [jn.i9, j.i9]; omega) ⟨_, jn⟩ _ a w' (.inl rfl) r⟩
  · obtain rfl : i = (ivs d).length := by omega
    have fe : ∀ b, decide (8 < (ivs d).length) = b → CRel ρ (e7 b) := fun b hb => qD e9 (pIn hg) (by simp [intCmp]) (qD (pIn hg) (litD 8) (by
      simp only [intCmp, Option.some.injEq]
      rw [← hb, decide_eq_decide]; omega) (fun p hp => by cases hp))
    by_cases h8 : 8 < (ivs d).length
    · exact ⟨_, _, _, _, spn, fe true (decide_eq_true h8), s_many q, doneS (b := false) rfl rfl (by show SPd d = none; unfold SPd; rw [if_pos h8])⟩
    · have hsp : SPd d = if muA d = [] then some [] else sRes d := by unfold SPd; rw [if_neg h8]
      have few : q ≠ .rr → ∃ pl sp c l, CallOk Try.prog ⟨w, [], Gx d⟩ sp ∧ CRel ρ c ∧ R7 pl sp q c l ∧ MGoodO Try.prog ⟨w, [], Gx d⟩ 7 (SPost d w) rsS tsS ρ l := fun hq =>
        ⟨_, _, _, _, spn, fe false (decide_eq_false h8), s_few q hq, doneS (b := true) rfl rfl (by show SPd d = some []; rw [hsp, if_pos (show muA d = [] from j.mn hq)])⟩
      cases q with
      | nn => exact few (by simp)
      | nr => exact few (by simp)
      | rr =>
        obtain ⟨m1, m2, m3⟩ := j.m rfl
        obtain ⟨l1, l2⟩ := j.l (by simp)
        have hmu : muA d ≠ [] := m3
        rw [if_neg hmu] at hsp
        have e66 : (IT.var 66).den ρ = some (encL (lfA d)) := pinX hg (by simp [pinsX])
        have e67 : (IT.var 67).den ρ = some ((lfA d).length : Int) := pinX hg (by simp [pinsX])
        have e73 : (IT.var 73).den ρ = some (encL (muA d)) := pinX hg (by simp [pinsX])
        have e74 : (IT.var 74).den ρ = some ((muA d).length : Int) := pinX hg (by simp [pinsX])
        have e77 : (IT.var 77).den ρ = some (if (sRes d).isSome then 1 else 0) := pinX hg (by simp [pinsX])
        have qe : ∀ {a b : IT} {x y : Int}, a.den ρ = some x → b.den ρ = some y → x = y → ∀ {cs : Cs}, CRel ρ cs → CRel ρ (q9 .eql a b true :: cs) := fun {a b x y} ha hb h {cs} c => qD ha hb (by rw [h]; simp [intCmp]) c
        have fcs : ∀ b, (sRes d).isSome = b → CRel ρ (csFn ++ [(onF, b)]) := fun b hb => CRel_app.2 ⟨qe (varD l1) e66 rfl (qe (varD l2) e67 rfl (qe (varD m1) e73 rfl (qe (varD m2) e74 rfl (fun p hp => by cases hp)))), Go.Vm.c1 (by
          unfold onF
          rw [cmpD e77 (litD 1), hb]; cases b <;> rfl) (fun p hp => by cases hp)⟩
        cases hs : sRes d with
        | none => exact ⟨_, _, _, _, spe hmu, CRel_app.2 ⟨fe false (decide_eq_false h8), fcs false (by rw [hs]; rfl)⟩, s_no, doneS (b := false) rfl rfl (by show SPd d = none; rw [hsp, hs])⟩
        | some R =>
          refine ⟨_, _, _, _, spe hmu, CRel_app.2 ⟨fe false (decide_eq_false h8), fcs true (by rw [hs]; rfl)⟩, s_yes, doneR (T := eRow) rfl (fun l h => by cases h) fun ρ' hle hG => ⟨gxKeep rfl hG, (fun p hp => by cases hp), fun x w2 r => ?_⟩⟩
          have e75 : (IT.var 75).den ρ' = some (encL R) := by
            have : (IT.var 75).den ρ' = some (encL ((sRes d).getD [])) := pinX hG (by simp [pinsX])
            rw [hs] at this; exact this
          have e76 : (IT.var 76).den ρ' = some (R.length : Int) := by
            have : (IT.var 76).den ρ' = some (((sRes d).getD []).length : Int) := pinX hG (by simp [pinsX])
            rw [hs] at this; exact this
          have i22 : (IT.var 22).den (s7y.app ρ') = some (R.length : Int) := varD (sbI (t := .var 76) rfl e76)
          have i23 : (IT.var 23).den (s7y.app ρ') = some (encL R) := varD (sbI (t := .var 75) rfl e75)
          obtain ⟨y, hy, he⟩ := r.t 0 _ rfl
          obtain rfl : x = y := Option.some.inj he
          cases hv : (AVal.slice 13 (.lit 0) (.var 22) (.nv 12)).den (s7y.app ρ') with
          | none => simp only [AVal.den, AVal.denL] at hy hv; rw [hv] at hy; cases hy
          | some vo =>
            have ro := row_out (l := 13) (j := 12) (nT := .var 22) (c := .var 23) rfl r.h rfl hv i22 i23
            have hx : x = .tuple #[vo, .bool true] := by
              have h0 : (AVal.tuple [.slice 13 (.lit 0) (.var 22) (.nv 12), .bool (.lit true)]).den (s7y.app ρ') = some x := hy
              have h1 : AVal.denL (s7y.app ρ') [.slice 13 (.lit 0) (.var 22) (.nv 12), .bool (.lit true)] = some [vo, .bool true] := denL2 hv rfl
              have h2 : (AVal.tuple [.slice 13 (.lit 0) (.var 22) (.nv 12), .bool (.lit true)]).den (s7y.app ρ') = some (.tuple #[vo, .bool true]) := by
                show (AVal.denL (s7y.app ρ') [.slice 13 (.lit 0) (.var 22) (.nv 12), .bool (.lit true)]).map (fun l => Value.tuple l.toArray) = _
                rw [h1]; rfl
              exact Option.some.inj (h0.symm.trans h2)
            rw [hs] at hsp
            have hRne : R ≠ [] := fun h0 => by
              have hp := onP_done (d := d1 d 0) hs
              rw [h0] at hp
              unfold doneP at hp
              have h1 : anyT (doneQ (d1 d 0) []) (d1 d 0).m = true := anyT_true (i := 0) (List.length_pos_iff.2 hmu) rfl
              rw [h1] at hp; cases hp
            exact ⟨Framed.of r.h, (fun h => by rw [hsp] at h; cases h), fun R' h => by rw [hsp] at h; cases h; exact ⟨vo, hx, .inr ⟨hRne, ro⟩⟩⟩
theorem search7 (ok : DOk d) {xs : List Value} (hr : HRel ⟨w, [], Gx d⟩ ρ (ofP (Lt.roH (EL d.kl))) 100 w) (hx : AVal.denL ρ [SL d.kl] = some xs) :
    Calls Try.prog 7 xs.toArray w fun e w' => ∃ v, e = .returned v ∧ SPost d w v w' := by
  have csl : CRel ρ (csL d.kl) := dcL ok hr.g.1
  have none1 : SPd d = some [] → MGoodO Try.prog ⟨w, [], Gx d⟩ 7 (SPost d w) rsS tsS ρ (.done 1 [] sN0) := fun h2 => doneR (T := eNil) rfl (fun l h => by cases h) fun ρ' hle hG => ⟨gxKeep rfl hG, (fun p hp => by cases hp), fun x w2 r => by
    obtain ⟨y, hy, he⟩ := r.t 0 _ rfl
    obtain rfl : x = y := Option.some.inj he
    obtain rfl : x = .tuple #[.slice none 0 0, .bool true] := (Option.some.inj hy).symm
    exact ⟨Framed.of r.h, (fun h => by rw [h2] at h; cases h), fun R h => by rw [h2] at h; cases h; exact ⟨_, rfl, .inl ⟨rfl, rfl⟩⟩⟩⟩
  have nil2 : ivs d = [] → SPd d = some [] := fun h => by
    unfold SPd muA
    rw [h]; rfl
  by_cases hl : d.kl = .row
  · rw [hl] at hr hx csl
    by_cases hz : ivs d = []
    · have sp : CallOk Try.prog ⟨w, [], Gx d⟩ (spSn true) := spL_ok fun p hp => by
        simp only [List.mem_cons, List.not_mem_nil, or_false] at hp
        rcases hp with rfl | rfl
        · exact spInvX_ok (β := ⟨w, [], Gx d⟩) (z := true) rfl ok hl ⟨fun _ => hz, fun _ => rfl⟩
        · exact spNew_ok
      exact calls_sumsE (β := ⟨w, [], Gx d⟩) (g := gM) (L := []) (Rs := rsS) (Ts := tsS) (pl := PL.only []) noCount noExt sp follows Try.func7 rfl s_nil hx hr csl (Go.Vm.one (none1 (nil2 hz)))
    · have sp : CallOk Try.prog ⟨w, [], Gx d⟩ (spSn false) := spL_ok fun p hp => by
        simp only [List.mem_cons, List.not_mem_nil, or_false] at hp
        rcases hp with rfl | rfl
        · exact spInvX_ok (β := ⟨w, [], Gx d⟩) (z := false) rfl ok hl ⟨(fun h => by cases h), fun h => absurd h hz⟩
        · exact spNew_ok
      refine calls_sumsE (β := ⟨w, [], Gx d⟩) (g := gM) (L := []) (Rs := rsS) (Ts := tsS) (pl := true) noCount noExt sp follows Try.func7 rfl s_in hx hr csl (Go.Vm.one (nextR (T := TSe .nn) rfl (fun l h => by cases h) fun ρ' hle hG => ?_))
      have jn : JS d .nn 0 (s7a.app ρ') := ⟨sbI (t := .lit 0) rfl rfl, Nat.zero_le _, fun h => absurd rfl h, (fun h => by cases h), fun _ => rfl, fun _ => rfl⟩
      have hGn : (Gx d).at (s7a.app ρ') := gxKeep rfl hG
      exact ⟨hGn, jn.cs ok hl hGn, fun a w' r => search_loop ok hl hz _ _ ⟨0, jn⟩ _ a w' (.inr rfl) r⟩
  · have hn0 := n0_of ok hl
    have hz : ivs d = [] := by unfold ivs; rw [hn0]; rfl
    exact calls_sumsE (β := ⟨w, [], Gx d⟩) (g := gM) (L := []) (Rs := rsS) (Ts := tsS) (pl := PL.only []) noCount noExt (spL_ok fun p hp => by rw [List.mem_singleton.1 hp]; exact spNew_ok) follows Try.func7 rfl (s_none d.kl hl) hx hr csl (Go.Vm.one (none1 (nil2 hz)))
end
end Ls
end Go.Proofs.Ytpgonpjakllnjaa
