/- The law (8): laid: what it answers; as the machine takes it. -/
import Derived.Test.YtighjgmgpphohaaLa2
import Derived.Test.YtighjgmgpphohaaRf9
section
namespace Go.Proofs.Ytighjgmgpphohaa
open Go.Vm Go.Vm.Le Go.Vm.Mb
namespace La
open Ar (iV uV pT pT_den NewA SomeA)
open Gr (RowsW add_den getD0 keep_app2 und47 und22 inf22)
open Rf (refV refVals refV_den Lb rwB bxU bxZ refP refOf FR ansR)
variable {w : World}
def GL (R : RowsW false w) : GP := fun I B S V F => R.pin 60 61 79 I B S V F /\ GRb I B S V F
theorem GL_keep (R : RowsW false w) : Ar.GKeep (GL R) := fun ρ ρ' hV hI hF h => by
 obtain ⟨⟨a1, a2, a3, a4, a5, a6⟩, b1, b2⟩ := h
 exact ⟨⟨(hV _).trans a1, (hI _ (by decide)).trans a2, (hI _ (by decide)).trans a3, (hI _ (by decide)).trans a4, by rw [hF]; exact a5, by rw [hF]; exact a6⟩, by rw [hF]; exact b1, by rw [hF]; exact b2⟩
theorem sp22_ok (R : RowsW false w) : CallOk Try.prog ⟨w, noO, GL R⟩ sp22 := by
 have h0 : ∀ I B S V F, (Base.mk w noO (GL R)).G I B S V F -> GL R I B S V F := fun _ _ _ _ _ h => h
 have i1 := R.inR (G := GL R) (v := 60) (a := 61) (k := 79) fun I B S V F h => (h0 I B S V F h).1
 refine spLH_ok (fun p hp => ?_) (orH_ok (hkInLen_ok und47 fun I B S V F h => ⟨(h0 I B S V F h).1.1, (h0 I B S V F h).1.2.2.2.1⟩) (orH_ok (hkInA_ok und47 inf22 i1) (hkInL_ok und22 i1)))
 simp only [List.mem_cons, List.not_mem_nil, or_false] at hp
 rcases hp with rfl | rfl | rfl
 · exact Ar.spNewA_ok
 · exact Ar.spLayA_ok
 · exact Rf.spLayR_ok fun I B S V F h => (h0 I B S V F h).2
def LV (v : Value) : Prop := v = .slice none 0 0 ∨ ∃ b n c, v = .slice (some ⟨b, 0, none⟩) n c
def RLd (w : World) : Value -> World -> Prop := fun x w' => ∃ b g v, x = .tuple #[.pointer (some ⟨b, 0, none⟩), .agg (refVals g v).toArray] /\ LV v /\ NewA w w' b
theorem end_22 {R : RowsW false w} {ρ : Env} {x : Value} {w' : World} {H : List (Nat × HB)} {L : AVal} {v : Value} (hH : (ofP H).get 3 = some arA) (hL : L.den ρ = some v) (hv : LV v) (r : SRel ⟨w, noO, GL R⟩ ρ ((⟨[(0, .tuple [.ptr 3 (.lit 0), .agg (refV L)])], 1, H, 6, [], 0⟩ : Tpl).st []) ⟨#[x], []⟩ w') : RLd w x w' := by
 obtain ⟨y, hy, he⟩ := r.t 0 (.tuple [.ptr 3 (.lit 0), .agg (refV L)]) rfl
 obtain rfl : x = y := Option.some.inj he
 have hh : HRel ⟨w, noO, GL R⟩ ρ (ofP H) 6 w' := r.h
 obtain ⟨Fp, hB⟩ := hh.big
 obtain ⟨b, X, N1, d1, f1, o1⟩ := hB.ok 3 2 (.var 221) true hH
 obtain ⟨A, most, hi, K, es, _, hA⟩ := fam2_inv f1
 have hx : (AVal.tuple [.ptr 3 (.lit 0), .agg (refV L)]).den ρ = some (.tuple #[.pointer (some ⟨b, 0, none⟩), .agg (refVals (fun i => ρ.I (200 + i)) v).toArray]) := by
  have h1 : (AVal.ptr 3 (.lit 0)).den ρ = some (.pointer (some ⟨b, 0, none⟩)) := by simp only [AVal.den, N1]; rfl
  simp only [AVal.den, AVal.denL] at h1 ⊢
  have h2 := refV_den hL
  simp only [AVal.den] at h2
  rw [h1, h2]
  rfl
 refine ⟨b, _, v, (Option.some.inj (hx.symm.trans hy)).symm, hv, Framed.of hh, Fp 3, ⟨_, _, _, _, _, hA⟩, fun y hy => ?_⟩
 rcases o1 rfl y hy with h | h
 · exact h
 · cases h
theorem end_22B {R : RowsW false w} {ρ : Env} {x : Value} {w' : World} (r' : SRel ⟨w, noO, GL R⟩ ρ ((⟨[(0, .tuple [.ptr 3 (.lit 0), .agg (refV Lb)])], 1, [(3, arA), (4, rwB true)], 6, [], 0⟩ : Tpl).st []) ⟨#[x], []⟩ w') : RLd w x w' := by
 have hh : HRel ⟨w, noO, GL R⟩ ρ (ofP [(3, arA), (4, rwB true)]) 6 w' := r'.h
 obtain ⟨Fp, hB⟩ := hh.big
 obtain ⟨b, X, N1, d1, f1, o1⟩ := hB.ok 4 4 (.var 219) true rfl
 obtain ⟨ps, cap, rfl, hR⟩ := fam4_inv f1
 have dn : (nbT (.var 219)).den ρ = some ((ps.length : Nat) : Int) := by
  rw [nbT, fnD d1 (litD 0), hh.g.2.1, fNb, decL_encL]; simp
 have dc : (capT (.var 219)).den ρ = some (cap : Int) := by
  rw [capT, unD d1 (litD 0)]
  show some ((decL _).getD ((0 : Int).toNat) 0) = _
  rw [decL_encL]; rfl
 exact end_22 (L := Lb) (v := .slice (some ⟨b, 0, none⟩) ps.length cap) rfl (den_slice_of N1 rfl dn dc) (.inr ⟨b, ps.length, cap, rfl⟩) r'
def Td : Bool -> Tpl
 | true => tB
 | false => tN
def Jd (n : Nat) : Bool -> Env -> Prop
 | true, ρ => ∃ i : Nat, i <= n /\ ρ.I 220 = (i : Int) /\ (decL (ρ.I 219)).tail.length <= i
 | false, ρ => ∃ i : Nat, i <= n /\ ρ.I 220 = (i : Int)
theorem loop_22 (R : RowsW false w) (hn : R.Ws.length <= 1000000) : ∀ k ρ, Jd R.Ws.length k ρ -> ∀ todo a w', todo = .inLoop ab0 :: ak0 ∨ todo = .code (.loop ab0) :: ak0 -> SRel ⟨w, noO, GL R⟩ ρ ((Td k).st todo) a w' -> Goes Try.prog 22 (RLd w) todo a w' := by
 refine loop_goesH (β := ⟨w, noO, GL R⟩) (g := g22) (L := []) (n := 4000) noCount noExt (sp22_ok R) follows Td (Jd R.Ws.length) (fun ρ => R.Ws.length - (ρ.I 220).toNat) (fun k ρ hJ hH hcs hG ih => ?_)
 obtain ⟨i, hi, j1, j2⟩ : ∃ i : Nat, i <= R.Ws.length /\ ρ.I 220 = (i : Int) /\ (k = true -> (decL (ρ.I 219)).tail.length <= i) := by
  cases k with
  | true => obtain ⟨i, a, b, c⟩ := hJ; exact ⟨i, a, b, fun _ => c⟩
  | false => obtain ⟨i, a, b⟩ := hJ; exact ⟨i, a, b, fun e => by cases e⟩
 have d0 : ∀ {ρ'}, ρ.Le ρ' -> (IT.var 220).den ρ' = some (i : Int) := fun hle => by show some _ = _; rw [hle.i, j1]
 have d63 : ∀ {ρ'}, ρ.Le ρ' -> (IT.var 63).den ρ' = some (R.Ws.length : Int) := fun hle => by show some _ = _; rw [hle.i]; exact congrArg some hG.1.2.2.2.1
 have ltn : ∀ {ρ' : Env} {b : Bool}, ρ.Le ρ' -> (BT.cmp .lss (.var 220) (.var 63)).den ρ' = some b -> b = decide (i < R.Ws.length) := fun {ρ' b} hle h => by
  rw [cmpD (d0 hle) (d63 hle)] at h
  simp only [intCmp, Option.some.injEq] at h
  rw [<- h]
  by_cases hq : i < R.Ws.length
  · simp [hq]
  · simp [hq]
 have e1 : ∀ {ρ'}, ρ.Le ρ' -> i < R.Ws.length -> (IT.bin .add .i64 (.var 220) (.lit 1)).den ρ' = some ((i + 1 : Nat) : Int) := fun hle hlt => add_den (d0 hle) (y := 1) rfl (by omega)
 have nN : ∀ {cs : Cs} {σ : Go.Vm.Sub}, ((BT.cmp .lss (.var 220) (.var 63)), true) ∈ cs -> Gr.keepsI σ = true -> lk σ.I 220 = some (.bin .add .i64 (.var 220) (.lit 1)) -> MGoodO Try.prog ⟨w, noO, GL R⟩ 22 (RLd w) e22 [tB, tN] ρ (.next 1 (.inLoop ab0 :: ak0) cs σ) := fun {cs σ} hm hk h220 => by
  refine ⟨trivial, fun ρ' hle hc T hT hG' => ?_⟩
  obtain rfl : tN = T := Option.some.inj hT
  have hlt : i < R.Ws.length := by simpa using (ltn hle (hc _ hm)).symm
  have h2 : (σ.app ρ').I 220 = ((i + 1 : Nat) : Int) := by
   simp only [Go.Vm.Sub.app, h220]; exact getD0 (e1 hle hlt)
  refine ⟨keep_app2 (GL_keep R) hk hG', ?_, fun a w' r => ih false _ ?_ ⟨i + 1, by omega, h2⟩ _ a w' (.inl rfl) r⟩
  · simp only [tN, csN, CRel_cons, CRel_nil, and_true]
    exact geqT (x := ((i + 1 : Nat) : Int)) (congrArg some h2) (litD 0) (by omega)
  · rw [h2, j1]; omega
 have nB : ∀ {cs : Cs} {σ : Go.Vm.Sub} {q : Nat} {n0 : IT}, ((BT.cmp .lss (.var 220) (.var 63)), true) ∈ cs -> ((BT.cmp .leq (nbT (.nv q)) (.bin .add .i64 n0 (.lit 1))), true) ∈ cs -> (∀ ρ', ρ.Le ρ' -> GP.at (GL R) ρ' -> ∃ m : Nat, m <= i /\ n0.den ρ' = some (m : Int)) -> Gr.keepsI σ = true -> lk σ.I 220 = some (.bin .add .i64 (.var 220) (.lit 1)) -> lk σ.I 219 = some (.nv q) ->
  MGoodO Try.prog ⟨w, noO, GL R⟩ 22 (RLd w) e22 [tB, tN] ρ (.next 0 (.inLoop ab0 :: ak0) cs σ) := fun {cs σ q n0} hm hm2 hn0 hk h220 h219 => by
  refine ⟨trivial, fun ρ' hle hc T hT hG' => ?_⟩
  obtain rfl : tB = T := Option.some.inj hT
  have hlt : i < R.Ws.length := by simpa using (ltn hle (hc _ hm)).symm
  have h2 : (σ.app ρ').I 220 = ((i + 1 : Nat) : Int) := by
   simp only [Go.Vm.Sub.app, h220]; exact getD0 (e1 hle hlt)
  have hGG := keep_app2 (GL_keep R) hk hG'
  obtain ⟨m, hm1, hm2'⟩ := hn0 ρ' hle hG'
  have h4 : (BT.cmp .leq (nbT (.nv q)) (.bin .add .i64 n0 (.lit 1))).den ρ' = some true := hc _ hm2
  have h5 : ∃ k : Nat, ρ'.N q = some k /\ (decL (k : Int)).tail.length <= i + 1 := by
   cases hz : (nbT (.nv q)).den ρ' with
   | none => simp only [BT.den, hz] at h4; cases h4
   | some z =>
    obtain ⟨k, hk1, rfl⟩ := Rf.nb_inv hG'.2.1 hz
    refine ⟨k, hk1, ?_⟩
    rw [cmpD hz (add_den hm2' (y := 1) rfl (by omega))] at h4
    simp only [intCmp, Option.some.injEq, decide_eq_true_eq] at h4
    omega
  obtain ⟨k, hk1, hk2⟩ := h5
  have h3 : (σ.app ρ').I 219 = (k : Int) := by
   simp only [Go.Vm.Sub.app, h219]
   show ((ρ'.N q).map fun k => ((k : Nat) : Int)).getD 0 = _
   rw [hk1]; rfl
  refine ⟨hGG, ?_, fun a w' r => ih true _ ?_ ⟨i + 1, by omega, h2, by rw [h3]; exact hk2⟩ _ a w' (.inl rfl) r⟩
  · simp only [tB, csB, csN, CRel_cons, CRel_nil, and_true]
    refine ⟨?_, geqT (x := ((i + 1 : Nat) : Int)) (congrArg some h2) (litD 0) (by omega)⟩
    have dn : (nbT (.var 219)).den (σ.app ρ') = some (((decL (k : Int)).tail.length : Nat) : Int) := by
     rw [nbT, fnD (show (IT.var 219).den (σ.app ρ') = some (k : Int) from congrArg some h3) (litD 0), hGG.2.1]; rfl
    exact leqT dn (litD 1000000) (by omega)
  · rw [h2, j1]; omega
 cases k with
 | false =>
  refine ⟨true, e22, [tB, tN], csN, sums_n, hcs, run_n, fun s hs => ?_⟩
  have hz : ∀ ρ', ρ.Le ρ' -> GP.at (GL R) ρ' -> ∃ m : Nat, m <= i /\ (IT.lit 0).den ρ' = some (m : Int) := fun ρ' _ _ => ⟨0, Nat.zero_le _, rfl⟩
  simp only [sums_n, List.mem_cons, List.not_mem_nil, or_false] at hs
  rcases hs with rfl | rfl | rfl | rfl | rfl | rfl | rfl
  · exact nN (by repeat (first | exact List.mem_cons_self | apply List.mem_cons_of_mem)) rfl rfl
  · exact nB (q := 9) (n0 := .lit 0) (by repeat (first | exact List.mem_cons_self | apply List.mem_cons_of_mem)) List.mem_cons_self hz rfl rfl rfl
  · exact nN (by repeat (first | exact List.mem_cons_self | apply List.mem_cons_of_mem)) rfl rfl
  · exact nB (q := 12) (n0 := .lit 0) (by repeat (first | exact List.mem_cons_self | apply List.mem_cons_of_mem)) List.mem_cons_self hz rfl rfl rfl
  · exact nN (by repeat (first | exact List.mem_cons_self | apply List.mem_cons_of_mem)) rfl rfl
  · exact nB (q := 12) (n0 := .lit 0) (by repeat (first | exact List.mem_cons_self | apply List.mem_cons_of_mem)) List.mem_cons_self hz rfl rfl rfl
  · refine ⟨trivial, fun ρ' hle hc T hT hG' => ?_⟩
    have hT : (⟨[(0, .tuple [.ptr 3 (.lit 0), .agg (refV .sliceNil)])], 1, [(3, arA)], 6, [], 0⟩ : Tpl) = T := Option.some.inj hT
    subst hT
    exact ⟨keep_app2 (GL_keep R) rfl hG', CRel_nil.2 trivial, fun x w' r => end_22 (L := .sliceNil) (v := .slice none 0 0) rfl rfl (.inl rfl) r⟩
 | true =>
  refine ⟨true, e22, [tB, tN], csB, sums_b, hcs, run_b, fun s hs => ?_⟩
  have hz : ∀ ρ', ρ.Le ρ' -> GP.at (GL R) ρ' -> ∃ m : Nat, m <= i /\ (nbT (.var 219)).den ρ' = some (m : Int) := fun ρ' hle hG' => ⟨(decL (ρ.I 219)).tail.length, j2 rfl, by
   rw [nbT, fnD (x := ρ.I 219) (by show some _ = _; rw [hle.i]) (litD 0), hG'.2.1]; rfl⟩
  simp only [sums_b, List.mem_cons, List.not_mem_nil, or_false] at hs
  rcases hs with rfl | rfl | rfl | rfl | rfl | rfl | rfl
  · exact nN (by repeat (first | exact List.mem_cons_self | apply List.mem_cons_of_mem)) rfl rfl
  · exact nB (q := 9) (n0 := nbT (.var 219)) (by repeat (first | exact List.mem_cons_self | apply List.mem_cons_of_mem)) List.mem_cons_self hz rfl rfl rfl
  · exact nN (by repeat (first | exact List.mem_cons_self | apply List.mem_cons_of_mem)) rfl rfl
  · exact nB (q := 12) (n0 := nbT (.var 219)) (by repeat (first | exact List.mem_cons_self | apply List.mem_cons_of_mem)) List.mem_cons_self hz rfl rfl rfl
  · exact nN (by repeat (first | exact List.mem_cons_self | apply List.mem_cons_of_mem)) rfl rfl
  · exact nB (q := 12) (n0 := nbT (.var 219)) (by repeat (first | exact List.mem_cons_self | apply List.mem_cons_of_mem)) List.mem_cons_self hz rfl rfl rfl
  · refine ⟨trivial, fun ρ' hle hc T hT hG' => ?_⟩
    have hT : (⟨[(0, .tuple [.ptr 3 (.lit 0), .agg (refV Lb)])], 1, [(3, arA), (4, rwB true)], 6, [], 0⟩ : Tpl) = T := Option.some.inj hT
    subst hT
    refine ⟨keep_app2 (GL_keep R) rfl hG', CRel_nil.2 trivial, fun x w' r => ?_⟩
    exact end_22B r
theorem laid22 (R : RowsW false w) (hn : R.Ws.length <= 1000000) : Calls Try.prog 22 #[.int .i64 60000, .slice R.ad R.Ws.length R.cap] w (fun e w' => ∃ x, e = .returned x /\ RLd w x w') := by
 let ρ : Env := ⟨fun i => if i = 61 then R.bo else if i = 62 then R.oo else R.Ws.length, fun _ => false, fun _ => default, fun _ => .slice R.ad R.Ws.length R.cap, fun _ => none, fun i => if i = 79 then R.f else if i = 80 then R.g else FR i⟩
 have hh : HRel ⟨w, noO, GL R⟩ (ρ.put 0 0) .leaf 1 w := (HRel.startG w ρ (fun _ => rfl) ⟨⟨rfl, rfl, rfl, rfl, rfl, rfl⟩, rfl, rfl⟩).num 0
 refine calls_sumsO (β := ⟨w, noO, GL R⟩) noCount noExt (sp22_ok R) follows Try.func22 rfl run_e (xs := [.int .i64 60000, .slice R.ad R.Ws.length R.cap]) rfl hh (CRel_nil.2 trivial) (fun s hs => ?_)
 simp only [sums_e, List.mem_cons, List.not_mem_nil, or_false] at hs
 subst hs
 refine ⟨trivial, fun ρ' hle hc' T hT hG' => ?_⟩
 obtain rfl : tN = T := Option.some.inj hT
 refine ⟨keep_app2 (GL_keep R) rfl hG', ?_, fun a w' r => loop_22 R hn false _ ⟨0, Nat.zero_le _, rfl⟩ _ a w' (.inr rfl) r⟩
 simp only [tN, csN, CRel_cons, CRel_nil, and_true]
 exact geqT (x := 0) rfl (litD 0) (by omega)
end La
end Go.Proofs.Ytighjgmgpphohaa
end
section
namespace Go.Vm
def Foot (ρ : Env) (H : Heap) (Fp : Nat -> Nat -> Prop) (D : Nat -> Prop) (y : Nat) : Prop := ∃ l k, D l /\ H.get l = some k /\ (ρ.N l = some y ∨ (k.k.nb = false /\ Fp l y))
section
variable {β : Base} {ρ : Env} {H : Heap} {nl : Nat} {w : World}
theorem HRel.merge (h : HRel β ρ H nl w) {Fp : Nat -> Nat -> Prop} (hB : BigAt ρ H β.dom w Fp) {D : Nat -> Prop} (hD : ∀ l k, D l -> H.get l = some k -> k.rw = true) {w' : World}
 (size : w.heap.size <= w'.heap.size) (same : ∀ y, y < w.heap.size -> ¬ Foot ρ H Fp D y -> w'.heap[y]? = w.heap[y]?) (tape : w'.tape = w.tape) (os : w'.os = w.os) (out : w'.output = w.output) :
 ∀ n k' c' x' b' F', (∀ y, F' y -> Foot ρ H Fp D y ∨ w.heap.size <= y) -> fam k' x' w' b' F' -> c'.den (ρ.put nl n) = some x' -> ∀ H' : Heap, (∀ l1 k1, H'.get l1 = some k1 -> (l1 = nl + 1 /\ k1 = ⟨.big k' c', true⟩) ∨ (¬ D l1 /\ H.get l1 = some k1)) -> HRel β ((ρ.put nl n).put (nl + 1) b') H' (nl + 2) w' := by
 intro n k' c' x' b' F' newF hf' hx' H' hs
 have hlt : ∀ {l1 k1 b1}, H.get l1 = some k1 -> ρ.N l1 = some b1 -> b1 < w.heap.size := fun h1 h2 => h.lt h1 h2
 have old : ∀ {l1 k1 c1 rw1}, H.get l1 = some ⟨.big k1 c1, rw1⟩ -> ∀ {y}, Fp l1 y -> y < w.heap.size := fun {_ _ _ _} h1 {y} hy => by
  obtain ⟨_, _, _, _, e3, _⟩ := hB.ok _ _ _ _ h1
  exact fam_lt e3 hy
 -- what is not dropped lies apart from it
 have apart1 : ∀ {l1 k1}, H.get l1 = some k1 -> ¬ D l1 -> ∀ {y}, ρ.N l1 = some y -> ¬ Foot ρ H Fp D y := fun {l1 k1} h1 hn {y} hy ⟨l, k, hl1, hl2, hc⟩ => by
  have hne : l ≠ l1 := fun e => hn (e ▸ hl1)
  rcases hc with hc | ⟨hnb, hc⟩
  · exact hne (h.inj l l1 _ _ hl2 h1 (hD l k hl1 hl2) (hc.trans hy.symm))
  · obtain ⟨n', c2, hk⟩ := ABlk.nb_of hnb
    obtain ⟨hk', r'⟩ := k
    simp only at hk; subst hk
    exact (hB.apart _ _ _ _ _ _ hl2 h1 hne y hc).1 hy
 have apart2 : ∀ {l1 k1 c1 rw1}, H.get l1 = some ⟨.big k1 c1, rw1⟩ -> ¬ D l1 -> ∀ {y}, Fp l1 y -> ¬ Foot ρ H Fp D y := fun {l1 k1 c1 rw1} h1 hn {y} hy ⟨l, k, hl1, hl2, hc⟩ => by
  have hne : l1 ≠ l := fun e => hn (e ▸ hl1)
  obtain ⟨a1, a2⟩ := hB.apart _ _ _ _ _ _ h1 hl2 hne y hy
  rcases hc with hc | ⟨hnb, hc⟩
  · exact a1 hc
  · exact a2 hnb hc
 have domF : ∀ {y}, Foot ρ H Fp D y -> β.dom y := fun {y} ⟨l, k, hl1, hl2, hc⟩ => by
  rcases hc with hc | ⟨hnb, hc⟩
  · exact h.own l k y hl2 (hD l k hl1 hl2) hc
  · obtain ⟨n', c2, hk⟩ := ABlk.nb_of hnb
    have hrw := hD l k hl1 hl2
    obtain ⟨hk', r'⟩ := k
    simp only at hk hrw; subst hk
    obtain ⟨_, _, _, _, _, e4⟩ := hB.ok _ _ _ _ hl2
    exact e4 hrw y hc
 have domN : ∀ {y}, F' y -> β.dom y := fun {y} hy => (newF y hy).elim domF fun h1 => .inl (Nat.le_trans h.size h1)
 have hn := (h.num n).num b'
 have hle1 : ρ.Le (ρ.put nl n) := Env.le_put (h.fresh nl (Nat.le_refl _))
 have hle2 : (ρ.put nl n).Le ((ρ.put nl n).put (nl + 1) b') := Env.le_put ((h.num n).fresh (nl + 1) (Nat.le_refl _))
 have hle := hle1.trans hle2
 have hnl : ∀ {l1 k1}, H.get l1 = some k1 -> l1 < nl := fun {l1 k1} g1 => by
  obtain ⟨b1, _, hb1, _⟩ := h.blk l1 k1 g1
  rcases Nat.lt_or_ge l1 nl with h1 | h1
  · exact h1
  · rw [h.fresh l1 h1] at hb1; cases hb1
 have hNo : ∀ {l1 k1}, H.get l1 = some k1 -> ((ρ.put nl n).put (nl + 1) b').N l1 = ρ.N l1 := fun {l1 k1} g1 => by
  have := hnl g1
  rw [Env.put_other _ _ (by omega), Env.put_other _ _ (by omega)]
 have hNn : ((ρ.put nl n).put (nl + 1) b').N (nl + 1) = some b' := Env.put_same ..
 have hb' : F' b' := fam_root hf'
 have other : ∀ {l1 k1}, H.get l1 = some k1 -> ¬ D l1 -> ∀ {y}, F' y -> ρ.N l1 ≠ some y := fun {l1 k1} g hn' {y} hy e => by
  rcases newF y hy with h1 | h1
  · exact apart1 g hn' e h1
  · have := hlt g e; omega
 have otherF : ∀ {l1 k1 c1 rw1}, H.get l1 = some ⟨.big k1 c1, rw1⟩ -> ¬ D l1 -> ∀ {y}, F' y -> ¬ Fp l1 y := fun {l1 k1 c1 rw1} g hn' {y} hy e => by
  rcases newF y hy with h1 | h1
  · exact apart2 g hn' e h1
  · have := old g e; omega
 refine ⟨fun l1 k1 h1 => ?_, fun l1 l2 k1 k2 h1 h2 hr he => ?_, fun l1 k1 b1 h1 hr hb1 => ?_, hn.fresh, trivial, Nat.le_trans h.size size, fun y hy hno => ?_, tape.trans h.tape, os.trans h.os, out.trans h.out, hn.g, fun l1 => if l1 = nl + 1 then F' else Fp l1, ⟨fun l1 k1 c1 rw1 h1 => ?_, fun l1 l2 k1 c1 rw1 h' h1 h2 hne y hy => ?_⟩⟩
 · rcases hs _ _ h1 with ⟨rfl, rfl⟩ | ⟨hne, g⟩
   · exact ⟨b', w'.heap[b']'(fam_lt hf' hb'), hNn, Array.getElem?_eq_getElem _, x', IT.den_mono hle2 hx'⟩
   · obtain ⟨b1, o, hb1, ho, hk⟩ := h.blk l1 k1 g
     exact ⟨b1, o, (hNo g).trans hb1, by rw [same b1 (hlt g hb1) (apart1 g hne hb1)]; exact ho, ABlk.rel_mono hle hk⟩
 · rcases hs _ _ h1 with ⟨rfl, rfl⟩ | ⟨n1, g1⟩
   · rcases hs _ _ h2 with ⟨rfl, rfl⟩ | ⟨n2, g2⟩
     · rfl
     · rw [hNn, hNo g2] at he
       exact absurd he.symm (other g2 n2 hb')
   · rcases hs _ _ h2 with ⟨rfl, rfl⟩ | ⟨n2, g2⟩
     · rw [hNn, hNo g1] at he
       exact absurd he (other g1 n1 hb')
     · rw [hNo g1, hNo g2] at he
       exact h.inj _ _ _ _ g1 g2 hr he
 · rcases hs _ _ h1 with ⟨rfl, rfl⟩ | ⟨n1, g1⟩
   · rw [hNn] at hb1; cases hb1
     exact domN hb'
   · rw [hNo g1] at hb1
     exact h.own _ _ _ g1 hr hb1
 · rw [same y (Nat.lt_of_lt_of_le hy h.size) (fun hF => (domF hF).elim (fun e => by omega) hno)]
   exact h.frame y hy hno
 · rcases hs _ _ h1 with ⟨rfl, e⟩ | ⟨hne, g⟩
   · cases e
     simp only [if_true]
     exact ⟨b', x', hNn, IT.den_mono hle2 hx', hf', fun _ y hy => domN hy⟩
   · have := hnl g
     rw [if_neg (by omega)]
     obtain ⟨b1, x1, e1, e2, e3, e4⟩ := hB.ok _ _ _ _ g
     exact ⟨b1, x1, (hNo g).trans e1, IT.den_mono hle e2, fam_local e3 fun y hy => same y (fam_lt e3 hy) (apart2 g hne hy), e4⟩
 · rcases hs _ _ h1 with ⟨rfl, e⟩ | ⟨n1, g1⟩
   · rcases hs _ _ h2 with ⟨rfl, e'⟩ | ⟨n2, g2⟩
     · exact absurd rfl hne
     · simp only [if_true] at hy
       have := hnl g2
       rw [if_neg (by omega), hNo g2]
       refine ⟨other g2 n2 hy, fun hnb hy2 => ?_⟩
       obtain ⟨n', c2, hk⟩ := ABlk.nb_of hnb
       obtain ⟨hk', r'⟩ := h'
       simp only at hk; subst hk
       exact otherF g2 n2 hy hy2
   · have hq := hnl g1
     simp only [show (l1 = nl + 1) = False from by simp; omega, if_false] at hy
     rcases hs _ _ h2 with ⟨rfl, rfl⟩ | ⟨n2, g2⟩
     · rw [hNn]
       refine ⟨fun e => ?_, fun _ hy2 => ?_⟩
       · cases e
         exact otherF g1 n1 hb' hy
       · simp only [if_true] at hy2
         exact otherF g1 n1 hy2 hy
     · have := hnl g2
       rw [if_neg (by omega), hNo g2]
       exact hB.apart _ _ _ _ _ _ g1 g2 hne y hy
end
end Go.Vm
end
