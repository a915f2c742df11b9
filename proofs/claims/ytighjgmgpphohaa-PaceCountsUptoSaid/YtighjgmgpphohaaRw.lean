/- The law (19): PaceCounts answers true. -/
import Derived.Test.YtighjgmgpphohaaLa8
import Derived.Test.YtighjgmgpphohaaVm24
import Derived.ChangeArms
import Derived.Lib.SmallJoins
section
namespace Go.Proofs.Ytighjgmgpphohaa
open Go.Vm Go.Vm.Le Go.Vm.Mb
namespace La
open Ar (iV uV pT pT_den fAlike)
open Gr (RowsW LenV tot add_den getD0 keep_app2 und47 und22 inf22 inf49)
variable {w : World}
def sp5g : CallF := spLH [(6, spTrue), (21, spGrt (.var 76) (.var 78) true)] hk5
theorem r_great' : (run Try.prog [] sp5g 4000 true 5 (entry Try.f5 (Try.f5.body.getD .ret) ar2 .leaf 3 [])).map (·.filterMap (sumMO g5 [] e5 tsL)) = some s_great := by kernel_rfl
theorem sp5g_ok (R1 R2 : RowsW false w) (X Y : LenV) (m : Nat) (hT : tot R1 R2 X Y < 4611686018427387904) (hb : 2000 < tot R1 R2 X Y) : CallOk Try.prog ⟨w, noO, G5 R1 R2 X Y m⟩ sp5g := by
 have h0 : ∀ I B S V F, (Base.mk w noO (G5 R1 R2 X Y m)).G I B S V F -> G5 R1 R2 X Y m I B S V F := fun _ _ _ _ _ h => h
 refine spLH_ok (fun p hp => ?_) (orH_ok (hkInLen_ok und47 fun I B S V F h => ⟨(h0 I B S V F h).1.1.2.1, (h0 I B S V F h).1.1.2.2.2.2.1⟩) (orH_ok (hkInLen_ok Gr.und29 fun I B S V F h => (h0 I B S V F h).1.2.1) (orH_ok (hkInLen_ok und22 fun I B S V F h => (h0 I B S V F h).1.2.2) (orH_ok (hkStN_ok inf49 fun I B S V F h i hi => ?_) (hkSl_ok und22 fun I B S V F h => ⟨(h0 I B S V F h).2.2.1, (h0 I B S V F h).2.2.2.1⟩)))))
 · simp only [List.mem_cons, List.not_mem_nil, or_false] at hp
   rcases hp with rfl | rfl
   · exact spTrue_ok first6
   · exact spGrt_ok R1 R2 X Y m hT (decide_eq_true hb) (fun ρ h => congrArg some h.1.2.1.2) (fun ρ h => congrArg some h.1.2.2.2)
 · have h1 := (h0 I B S V F h).1
   simp only [List.mem_cons, List.not_mem_nil, or_false] at hi
   rcases hi with rfl | rfl | rfl
   · rw [h1.2.1.1]; rfl
   · rw [h1.2.2.1]; rfl
   · rw [h1.1.2.1]; rfl
def XIn (ks : List IntKind) (w : World) (L : LenV) : Prop :=
 (L.ad = none /\ L.n = 0 /\ L.cap = 0) ∨ ∃ b o, L.ad = some ⟨b, o, none⟩ /\ (L.n = 0 ∨ 1 <= L.n /\ ∃ z c fr el, w.heap[b]? = some (.cells c el fr) /\ o <= c.size /\ rowOf ks (decL z) <+: c.toList.drop o /\ Typed ks L.n (rowOf ks (decL z)))
noncomputable def env5 (R1 R2 : RowsW false w) (X Y : LenV) (k z o : Int) (m b c : Nat) : Env :=
 ⟨fun i => if i = 61 then R1.bo else if i = 62 then R1.oo else if i = 63 then R1.Ws.length else if i = 71 then R2.bo else if i = 72 then R2.oo else if i = 73 then R2.Ws.length else if i = 76 then X.n else if i = 78 then Y.n else if i = 67 then k else if i = 31 then z else if i = 33 then o else m, fun _ => false, fun _ => default,
  fun i => if i = 60 then .slice R1.ad R1.Ws.length R1.cap else if i = 70 then .slice R2.ad R2.Ws.length R2.cap else if i = 64 then X.v else Y.v, fun i => if i = 1 then some b else if i = 2 then some c else none,
  fun i => if i = 79 then R1.f else if i = 80 then R1.g else if i = 81 then R2.f else if i = 82 then R2.g else if i = 75 then fAlike else if i = 93 then fNb else fEl⟩
theorem env5_ok (R1 R2 : RowsW false w) (X Y : LenV) (k z o : Int) (m b c : Nat) : GP.at (G5 R1 R2 X Y m) (env5 R1 R2 X Y k z o m b c) :=
 ⟨⟨⟨⟨rfl, rfl, rfl, rfl, rfl, rfl⟩, rfl, rfl, rfl, rfl, rfl, rfl⟩, ⟨rfl, rfl⟩, rfl, rfl⟩, rfl, rfl, rfl, rfl⟩
theorem env5_fresh {R1 R2 : RowsW false w} {X Y : LenV} {k z o : Int} {m b c : Nat} : ∀ i, 3 <= i -> (env5 R1 R2 X Y k z o m b c).N i = none := fun i hi => by
 show (if i = 1 then some b else if i = 2 then some c else none) = none
 rw [if_neg (by omega), if_neg (by omega)]
theorem start0 (R1 R2 : RowsW false w) (X Y : LenV) (k z o : Int) (m b c : Nat) : HRel ⟨w, noO, G5 R1 R2 X Y m⟩ (env5 R1 R2 X Y k z o m b c) (ofP []) 3 w :=
 HRel.owned [] (fun p hp => by cases hp) (fun p hp => by cases hp) (fun p hp => by cases hp) env5_fresh (env5_ok R1 R2 X Y k z o m b c)
theorem start1 (R1 R2 : RowsW false w) (X Y : LenV) (k z : Int) (o m b c : Nat) {ks : List IntKind} {el : TypeId} {cc : Array Value} {el' : TypeId} {fr : Nat × Nat} (hb : w.heap[b]? = some (.cells cc el' fr)) (ho : o <= cc.size) (hp : rowOf ks (decL z) <+: cc.toList.drop o) (ht : Typed ks m (rowOf ks (decL z))) :
 HRel ⟨w, noO, G5 R1 R2 X Y m⟩ (env5 R1 R2 X Y k z o m b c) (ofP [(1, rowI ks el)]) 3 w := by
 refine HRel.owned [(1, rowI ks el)] (fun p hp' => ?_) (fun p hp' q hq hrw => ?_) (fun p hp' hrw => ?_) env5_fresh (env5_ok R1 R2 X Y k z o m b c)
 · rw [List.mem_singleton.1 hp']
   exact ⟨b, _, rfl, hb, _, cc, fr, el', m, o, rfl, (fun e => by cases e), rfl, rfl, ⟨ho, hp⟩, rfl, ht, trivial, (fun e => by cases e)⟩
 · rw [List.mem_singleton.1 hp'] at hrw; cases hrw
 · rw [List.mem_singleton.1 hp'] at hrw; cases hrw
theorem kT_den {ρ : Env} {k : Int} (h : ρ.I 67 = k) : ∃ r : Int, kT.den ρ = some r /\ (r = 0 ∨ r = 1 ∨ r = 2) := by
 have e1 : (IT.cv .u64 (.var 67)).den ρ = some (IntKind.u64.wrap k) := cvD (by show some _ = _; rw [h])
 refine ⟨(IntKind.u64.wrap k).tmod 3, by rw [kT, binD e1 (litD 3)]; rfl, ?_⟩
 have h0 : 0 <= IntKind.u64.wrap k := by
  show 0 <= k % _
  exact Int.emod_nonneg _ (by decide)
 have h1 := Int.tmod_nonneg 3 h0
 have h2 := Int.tmod_lt_of_pos (IntKind.u64.wrap k) (show (0 : Int) < 3 by omega)
 omega
def pV (R1 R2 : RowsW false w) (X Y : LenV) (k : Int) : List Value := [.slice R1.ad R1.Ws.length R1.cap, .agg #[.int .i64 k, X.v, Y.v, .slice R2.ad R2.Ws.length R2.cap]]
section
variable (R1 R2 : RowsW false w) (X Y : LenV)
theorem law5_great (k : Int) (hT : tot R1 R2 X Y < 4611686018427387904) (hb : 2000 < tot R1 R2 X Y) : Calls Try.prog 5 (pV R1 R2 X Y k).toArray w (fun e w' => ∃ x, e = .returned x /\ R5 w x w') := by
 refine calls_sumsO (β := ⟨w, noO, G5 R1 R2 X Y 0⟩) noCount noExt (sp5g_ok R1 R2 X Y 0 hT hb) follows Try.func5 rfl r_great' (xs := pV R1 R2 X Y k) rfl (start0 R1 R2 X Y k 0 0 0 0 0) (CRel_nil.2 trivial) (fun s hs => ?_)
 simp only [s_great, List.mem_cons, List.not_mem_nil, or_false] at hs
 subst hs
 exact done_5 rfl
variable (hT : tot R1 R2 X Y <= 2000)
include hT
theorem law5_R (k : Int) (hX : XIn [.u64, .i64] w X) (hk : ∀ ρ : Env, ρ.I 67 = k -> kT.den ρ = some 0) : Calls Try.prog 5 (pV R1 R2 X Y k).toArray w (fun e w' => ∃ x, e = .returned x /\ R5 w x w') := by
 have hsp : ∀ m, CallOk Try.prog ⟨w, noO, G5 R1 R2 X Y m⟩ sp5' := fun m => sp5_ok R1 R2 X Y m (by omega) (decide_eq_false (by omega)) (fun ρ h => congrArg some h.1.2.1.2) (fun ρ h => congrArg some h.1.2.2.2)
 have hXn : X.n <= 1000000 := by unfold Gr.tot at hT; omega
 rcases hX with ⟨h1, h2, h3⟩ | ⟨b, o, h1, h2 | ⟨hn, z, c, fr, el, hb, ho, hp, ht⟩⟩
 · refine calls_sumsO (β := ⟨w, noO, G5 R1 R2 X Y 0⟩) noCount noExt (sp5_ok R1 R2 X Y 0 (xn := .lit 0) (yn := .var 78) (by omega) (decide_eq_false (by omega)) (fun ρ _ => by rw [h2]; rfl) (fun ρ h => congrArg some h.1.2.2.2)) follows Try.func5 rfl r_eRn (xs := pV R1 R2 X Y k) ?_ (start0 R1 R2 X Y k 0 0 0 0 0) (c1 (eqlT (hk _ rfl) (litD 0) rfl) (CRel_nil.2 trivial)) (fun s hs => ?_)
   · have : X.v = .slice none 0 0 := by unfold LenV.v; rw [h1, h2, h3]
     unfold pV; rw [this]; rfl
   · simp only [s_eRn, List.mem_cons, List.not_mem_nil, or_false] at hs
     have fin : ∀ {cs : Cs} {σ : Go.Vm.Sub}, Gr.keepsI σ = true -> lk σ.I 211 = some (.lit 0) -> lk σ.I 218 = some (.lit 0) -> MGoodO Try.prog ⟨w, noO, G5 R1 R2 X Y 0⟩ 5 (R5 w) e5 tsR (env5 R1 R2 X Y k 0 0 0 0 0) (.next 2 (.code (.loop cb0) :: ck0) cs σ) := fun {cs σ} hk1 hk2 hk3 => by
      refine ⟨trivial, fun ρ' hle hc T hT' hG' => ?_⟩
      obtain rfl : tRn = T := Option.some.inj hT'
      refine ⟨keep_app2 (G5_keep R1 R2 X Y 0) hk1 hG', CRel_nil.2 trivial, fun a w' r => loop_R R1 R2 X Y 0 (hsp 0) (n := 0) (by omega) .n _ ⟨?_, ?_⟩ _ a w' (.inr rfl) r⟩
      · simp only [Go.Vm.Sub.app, hk2]; rfl
      · simp only [Go.Vm.Sub.app, hk3]; rfl
     rcases hs with rfl | rfl
     · exact fin rfl rfl rfl
     · exact fin rfl rfl rfl
 · refine calls_sumsO (β := ⟨w, noO, G5 R1 R2 X Y 0⟩) noCount noExt (sp5_ok R1 R2 X Y 0 (xn := .lit 0) (yn := .var 78) (by omega) (decide_eq_false (by omega)) (fun ρ _ => by rw [h2]; rfl) (fun ρ h => congrArg some h.1.2.2.2)) follows Try.func5 rfl r_eRz (xs := pV R1 R2 X Y k) ?_ (start0 R1 R2 X Y k 0 o 0 b X.cap) (c1 (eqlT (hk _ rfl) (litD 0) rfl) (CRel_nil.2 trivial)) (fun s hs => ?_)
   · have : X.v = .slice (some ⟨b, o, none⟩) 0 X.cap := by unfold LenV.v; rw [h1, h2]
     unfold pV; rw [this]; rfl
   · simp only [s_eRz, List.mem_cons, List.not_mem_nil, or_false] at hs
     have fin : ∀ {cs : Cs} {σ : Go.Vm.Sub}, Gr.keepsI σ = true -> lk σ.I 211 = some (.lit 0) -> lk σ.I 218 = some (.lit 0) -> MGoodO Try.prog ⟨w, noO, G5 R1 R2 X Y 0⟩ 5 (R5 w) e5 tsR (env5 R1 R2 X Y k 0 o 0 b X.cap) (.next 3 (.code (.loop cb0) :: ck0) cs σ) := fun {cs σ} hk1 hk2 hk3 => by
      refine ⟨trivial, fun ρ' hle hc T hT' hG' => ?_⟩
      obtain rfl : tRz = T := Option.some.inj hT'
      refine ⟨keep_app2 (G5_keep R1 R2 X Y 0) hk1 hG', CRel_nil.2 trivial, fun a w' r => loop_R R1 R2 X Y 0 (hsp 0) (n := 0) (by omega) .z _ ⟨?_, ?_⟩ _ a w' (.inr rfl) r⟩
      · simp only [Go.Vm.Sub.app, hk2]; rfl
      · simp only [Go.Vm.Sub.app, hk3]; rfl
     rcases hs with rfl | rfl
     · exact fin rfl rfl rfl
     · exact fin rfl rfl rfl
 · have d32 : (IT.var 32).den (env5 R1 R2 X Y k z o X.n b X.cap) = some (X.n : Int) := rfl
   refine calls_sumsO (β := ⟨w, noO, G5 R1 R2 X Y X.n⟩) noCount noExt (sp5_ok R1 R2 X Y X.n (xn := .var 32) (yn := .var 78) (by omega) (decide_eq_false (by omega)) (fun ρ h => congrArg some h.2.2.2.2) (fun ρ h => congrArg some h.1.2.2.2)) follows Try.func5 rfl r_eRr (xs := pV R1 R2 X Y k) ?_ (start1 R1 R2 X Y k z o X.n b X.cap hb ho hp ht) (c1 (eqlT (hk _ rfl) (litD 0) rfl) (c1 (geqT d32 (litD 1) (by omega)) (c1 (leqT d32 (litD 1000000) (by omega)) (c1 (gtrT d32 (litD 0) (by omega)) (CRel_nil.2 trivial))))) (fun s hs => ?_)
   · have : X.v = .slice (some ⟨b, o, none⟩) X.n X.cap := by unfold LenV.v; rw [h1]
     unfold pV; rw [this]; rfl
   · simp only [s_eRr, List.mem_cons, List.not_mem_nil, or_false] at hs
     have fin : ∀ {cs : Cs} {σ : Go.Vm.Sub}, Gr.keepsI σ = true -> lk σ.I 211 = some (.var 32) -> MGoodO Try.prog ⟨w, noO, G5 R1 R2 X Y X.n⟩ 5 (R5 w) e5 tsR (env5 R1 R2 X Y k z o X.n b X.cap) (.next 0 (.code (.loop cb0) :: ck0) cs σ) := fun {cs σ} hk1 hk2 => by
      refine ⟨trivial, fun ρ' hle hc T hT' hG' => ?_⟩
      obtain rfl : tR1 = T := Option.some.inj hT'
      refine ⟨keep_app2 (G5_keep R1 R2 X Y X.n) hk1 hG', CRel_nil.2 trivial, fun a w' r => loop_R R1 R2 X Y X.n (hsp X.n) hXn .a _ ⟨?_, hn⟩ _ a w' (.inr rfl) r⟩
      simp only [Go.Vm.Sub.app, hk2]
      show ρ'.I 32 = _
      rw [hle.i]; rfl
     rcases hs with rfl | rfl
     · exact fin rfl rfl
     · exact fin rfl rfl
theorem law5_F (k : Int) (hX : XIn [.u64] w Y) (hk : ∀ ρ : Env, ρ.I 67 = k -> kT.den ρ = some 1) : Calls Try.prog 5 (pV R1 R2 X Y k).toArray w (fun e w' => ∃ x, e = .returned x /\ R5 w x w') := by
 have hsp : ∀ m, CallOk Try.prog ⟨w, noO, G5 R1 R2 X Y m⟩ sp5' := fun m => sp5_ok R1 R2 X Y m (by omega) (decide_eq_false (by omega)) (fun ρ h => congrArg some h.1.2.1.2) (fun ρ h => congrArg some h.1.2.2.2)
 have hXn : Y.n <= 1000000 := by unfold Gr.tot at hT; omega
 rcases hX with ⟨h1, h2, h3⟩ | ⟨b, o, h1, h2 | ⟨hn, z, c, fr, el, hb, ho, hp, ht⟩⟩
 · refine calls_sumsO (β := ⟨w, noO, G5 R1 R2 X Y 0⟩) noCount noExt (sp5_ok R1 R2 X Y 0 (xn := .var 76) (yn := .lit 0) (by omega) (decide_eq_false (by omega)) (fun ρ h => congrArg some h.1.2.1.2) (fun ρ _ => by rw [h2]; rfl)) follows Try.func5 rfl r_eFn (xs := pV R1 R2 X Y k) ?_ (start0 R1 R2 X Y k 0 0 0 0 0) (c1 (eqlF (hk _ rfl) (litD 0) (by omega)) (c1 (eqlT (hk _ rfl) (litD 1) rfl) (CRel_nil.2 trivial))) (fun s hs => ?_)
   · have : Y.v = .slice none 0 0 := by unfold LenV.v; rw [h1, h2, h3]
     unfold pV; rw [this]; rfl
   · simp only [s_eFn, List.mem_cons, List.not_mem_nil, or_false] at hs
     have fin : ∀ {cs : Cs} {σ : Go.Vm.Sub}, Gr.keepsI σ = true -> lk σ.I 211 = some (.lit 0) -> lk σ.I 218 = some (.lit 0) -> MGoodO Try.prog ⟨w, noO, G5 R1 R2 X Y 0⟩ 5 (R5 w) e5 tsF (env5 R1 R2 X Y k 0 0 0 0 0) (.next 2 (.code (.loop cb0) :: ck0) cs σ) := fun {cs σ} hk1 hk2 hk3 => by
      refine ⟨trivial, fun ρ' hle hc T hT' hG' => ?_⟩
      obtain rfl : tFn = T := Option.some.inj hT'
      refine ⟨keep_app2 (G5_keep R1 R2 X Y 0) hk1 hG', CRel_nil.2 trivial, fun a w' r => loop_F R1 R2 X Y 0 (hsp 0) (n := 0) (by omega) .n _ ⟨?_, ?_⟩ _ a w' (.inr rfl) r⟩
      · simp only [Go.Vm.Sub.app, hk2]; rfl
      · simp only [Go.Vm.Sub.app, hk3]; rfl
     rcases hs with rfl | rfl
     · exact fin rfl rfl rfl
     · exact fin rfl rfl rfl
 · refine calls_sumsO (β := ⟨w, noO, G5 R1 R2 X Y 0⟩) noCount noExt (sp5_ok R1 R2 X Y 0 (xn := .var 76) (yn := .lit 0) (by omega) (decide_eq_false (by omega)) (fun ρ h => congrArg some h.1.2.1.2) (fun ρ _ => by rw [h2]; rfl)) follows Try.func5 rfl r_eFz (xs := pV R1 R2 X Y k) ?_ (start0 R1 R2 X Y k 0 o 0 b Y.cap) (c1 (eqlF (hk _ rfl) (litD 0) (by omega)) (c1 (eqlT (hk _ rfl) (litD 1) rfl) (CRel_nil.2 trivial))) (fun s hs => ?_)
   · have : Y.v = .slice (some ⟨b, o, none⟩) 0 Y.cap := by unfold LenV.v; rw [h1, h2]
     unfold pV; rw [this]; rfl
   · simp only [s_eFz, List.mem_cons, List.not_mem_nil, or_false] at hs
     have fin : ∀ {cs : Cs} {σ : Go.Vm.Sub}, Gr.keepsI σ = true -> lk σ.I 211 = some (.lit 0) -> lk σ.I 218 = some (.lit 0) -> MGoodO Try.prog ⟨w, noO, G5 R1 R2 X Y 0⟩ 5 (R5 w) e5 tsF (env5 R1 R2 X Y k 0 o 0 b Y.cap) (.next 3 (.code (.loop cb0) :: ck0) cs σ) := fun {cs σ} hk1 hk2 hk3 => by
      refine ⟨trivial, fun ρ' hle hc T hT' hG' => ?_⟩
      obtain rfl : tFz = T := Option.some.inj hT'
      refine ⟨keep_app2 (G5_keep R1 R2 X Y 0) hk1 hG', CRel_nil.2 trivial, fun a w' r => loop_F R1 R2 X Y 0 (hsp 0) (n := 0) (by omega) .z _ ⟨?_, ?_⟩ _ a w' (.inr rfl) r⟩
      · simp only [Go.Vm.Sub.app, hk2]; rfl
      · simp only [Go.Vm.Sub.app, hk3]; rfl
     rcases hs with rfl | rfl
     · exact fin rfl rfl rfl
     · exact fin rfl rfl rfl
 · have d32 : (IT.var 32).den (env5 R1 R2 X Y k z o Y.n b Y.cap) = some (Y.n : Int) := rfl
   refine calls_sumsO (β := ⟨w, noO, G5 R1 R2 X Y Y.n⟩) noCount noExt (sp5_ok R1 R2 X Y Y.n (xn := .var 76) (yn := .var 32) (by omega) (decide_eq_false (by omega)) (fun ρ h => congrArg some h.1.2.1.2) (fun ρ h => congrArg some h.2.2.2.2)) follows Try.func5 rfl r_eFr (xs := pV R1 R2 X Y k) ?_ (start1 R1 R2 X Y k z o Y.n b Y.cap hb ho hp ht) (c1 (eqlF (hk _ rfl) (litD 0) (by omega)) (c1 (eqlT (hk _ rfl) (litD 1) rfl) (c1 (geqT d32 (litD 1) (by omega)) (c1 (leqT d32 (litD 1000000) (by omega)) (c1 (gtrT d32 (litD 0) (by omega)) (CRel_nil.2 trivial)))))) (fun s hs => ?_)
   · have : Y.v = .slice (some ⟨b, o, none⟩) Y.n Y.cap := by unfold LenV.v; rw [h1]
     unfold pV; rw [this]; rfl
   · simp only [s_eFr, List.mem_cons, List.not_mem_nil, or_false] at hs
     have fin : ∀ {cs : Cs} {σ : Go.Vm.Sub}, Gr.keepsI σ = true -> lk σ.I 211 = some (.var 32) -> MGoodO Try.prog ⟨w, noO, G5 R1 R2 X Y Y.n⟩ 5 (R5 w) e5 tsF (env5 R1 R2 X Y k z o Y.n b Y.cap) (.next 0 (.code (.loop cb0) :: ck0) cs σ) := fun {cs σ} hk1 hk2 => by
      refine ⟨trivial, fun ρ' hle hc T hT' hG' => ?_⟩
      obtain rfl : tF1 = T := Option.some.inj hT'
      refine ⟨keep_app2 (G5_keep R1 R2 X Y Y.n) hk1 hG', CRel_nil.2 trivial, fun a w' r => loop_F R1 R2 X Y Y.n (hsp Y.n) hXn .a _ ⟨?_, hn⟩ _ a w' (.inr rfl) r⟩
      simp only [Go.Vm.Sub.app, hk2]
      show ρ'.I 32 = _
      rw [hle.i]; rfl
     rcases hs with rfl | rfl
     · exact fin rfl rfl
     · exact fin rfl rfl
theorem law5_L (k : Int) (hk : ∀ ρ : Env, ρ.I 67 = k -> kT.den ρ = some 2) : Calls Try.prog 5 (pV R1 R2 X Y k).toArray w (fun e w' => ∃ x, e = .returned x /\ R5 w x w') := by
 have hsp : CallOk Try.prog ⟨w, noO, G5 R1 R2 X Y 0⟩ sp5' := sp5_ok R1 R2 X Y 0 (by omega) (decide_eq_false (by omega)) (fun ρ h => congrArg some h.1.2.1.2) (fun ρ h => congrArg some h.1.2.2.2)
 have hXn : R2.Ws.length <= 1000000 := by
  have := Gr.sum_ge R2 R2.Ws.length
  unfold Gr.tot at hT; omega
 refine calls_sumsO (β := ⟨w, noO, G5 R1 R2 X Y 0⟩) noCount noExt hsp follows Try.func5 rfl r_eL (xs := pV R1 R2 X Y k) rfl (start0 R1 R2 X Y k 0 0 0 0 0) (fk2_ok (hk _ rfl)) (fun s hs => ?_)
 have e73 : ∀ {ρ'}, (env5 R1 R2 X Y k 0 0 0 0 0).Le ρ' -> (IT.var 73).den ρ' = some (R2.Ws.length : Int) := fun hle => by show some _ = _; rw [hle.i]; rfl
 have hK : ∀ {ρ' ρ2 : Env}, (env5 R1 R2 X Y k 0 0 0 0 0).Le ρ' -> ρ2.I 67 = ρ'.I 67 -> K2 ρ2 := fun hle e => hk _ (by rw [e, hle.i]; rfl)
 have nn : ∀ {cs : Cs} {σ : Go.Vm.Sub}, ((BT.cmp .eql (.var 73) (.lit 0)), true) ∈ cs -> Gr.keepsI σ = true -> lk σ.I 211 = some (.var 73) -> lk σ.I 218 = some (.lit 0) -> lk σ.I 67 = some (.var 67) -> MGoodO Try.prog ⟨w, noO, G5 R1 R2 X Y 0⟩ 5 (R5 w) e5 tsL (env5 R1 R2 X Y k 0 0 0 0 0) (.next 2 (.code (.loop cb0) :: ck0) cs σ) := fun {cs σ} hm hk1 hk2 hk3 hk4 => by
  refine ⟨trivial, fun ρ' hle hc T hT' hG' => ?_⟩
  obtain rfl : tLn = T := Option.some.inj hT'
  have h0 := hc _ hm
  rw [cmpD (e73 hle) (litD 0)] at h0
  simp only [intCmp, Option.some.injEq, beq_iff_eq] at h0
  refine ⟨keep_app2 (G5_keep R1 R2 X Y 0) hk1 hG', CRel_nil.2 trivial, fun a w' r => loop_L R1 R2 X Y 0 hsp (n := R2.Ws.length) hXn .n _ ⟨hK hle ?_, ?_, ?_⟩ _ a w' (.inr rfl) r⟩
  · simp only [Go.Vm.Sub.app, hk4]; rfl
  · simp only [Go.Vm.Sub.app, hk2]
    exact getD0 (e73 hle)
  · simp only [Go.Vm.Sub.app, hk3]
    show (0 : Int) = _
    omega
 have na : ∀ {cs : Cs} {σ : Go.Vm.Sub} {q : Nat}, ((BT.cmp .eql (nbT (.nv q)) (.var 73)), true) ∈ cs -> ((BT.cmp .geq (.var 73) (.lit 1)), true) ∈ cs -> Gr.keepsI σ = true -> lk σ.I 211 = some (.var 73) -> lk σ.I 219 = some (.nv q) -> lk σ.I 67 = some (.var 67) -> MGoodO Try.prog ⟨w, noO, G5 R1 R2 X Y 0⟩ 5 (R5 w) e5 tsL (env5 R1 R2 X Y k 0 0 0 0 0) (.next 0 (.code (.loop cb0) :: ck0) cs σ) := fun {cs σ q} hm hm2 hk1 hk2 hk3 hk4 => by
  refine ⟨trivial, fun ρ' hle hc T hT' hG' => ?_⟩
  obtain rfl : tL1 = T := Option.some.inj hT'
  obtain ⟨zz, hz1, hz2⟩ := Rf.eq_inv (hc _ hm)
  obtain ⟨kk, hk5, hk6⟩ := Rf.nb_inv hG'.2.2.1 hz1
  have hz3 := (e73 hle).symm.trans hz2
  have hlen : (decL (kk : Int)).tail.length = R2.Ws.length := by
   have := Option.some.inj hz3
   omega
  have h0 := hc _ hm2
  rw [cmpD (e73 hle) (litD 1)] at h0
  simp only [intCmp, Option.some.injEq, decide_eq_true_eq] at h0
  have h219 : (σ.app ρ').I 219 = (kk : Int) := by
   simp only [Go.Vm.Sub.app, hk3]
   show ((ρ'.N q).map fun k => ((k : Nat) : Int)).getD 0 = _
   rw [hk5]; rfl
  refine ⟨keep_app2 (G5_keep R1 R2 X Y 0) hk1 hG', CRel_nil.2 trivial, fun a w' r => ?_⟩
  have hh : HRel ⟨w, noO, G5 R1 R2 X Y 0⟩ (σ.app ρ') (ofP tL1.H) 17 w' := r.h
  obtain ⟨b5, x5, F5, _, hx5, hf5, _⟩ := hh.bigAt (l := 12) (k := 5) (c := .var 219) (rw := true) rfl
  obtain ⟨es, cap, rfl, hR⟩ := fam5_inv hf5
  have hx5 : (σ.app ρ').I 219 = encL (((cap : Nat) : Int) :: es.map slC) := Option.some.inj hx5
  obtain ⟨_, _, _, _, hcap, _⟩ := hR.ex
  have hl2 : es.length = R2.Ws.length := by
   rw [h219] at hx5
   rw [<- hlen, hx5, decL_encL, List.tail_cons, List.length_map]
  refine loop_L R1 R2 X Y 0 hsp (n := R2.Ws.length) hXn .a _ ⟨hK hle ?_, ?_, by omega, by rw [h219]; exact hlen, cap, by rw [hx5, decL_encL]; rfl, by omega⟩ _ a w' (.inr rfl) r
  · simp only [Go.Vm.Sub.app, hk4]; rfl
  · simp only [Go.Vm.Sub.app, hk2]
    exact getD0 (e73 hle)
 simp only [s_eL, List.mem_cons, List.not_mem_nil, or_false] at hs
 rcases hs with rfl | rfl | rfl | rfl
 · exact nn (by repeat (first | exact List.mem_cons_self | apply List.mem_cons_of_mem)) rfl rfl rfl rfl
 · exact na (q := 11) (by repeat (first | exact List.mem_cons_self | apply List.mem_cons_of_mem)) (by repeat (first | exact List.mem_cons_self | apply List.mem_cons_of_mem)) rfl rfl rfl rfl
 · exact nn (by repeat (first | exact List.mem_cons_self | apply List.mem_cons_of_mem)) rfl rfl rfl rfl
 · exact na (q := 14) (by repeat (first | exact List.mem_cons_self | apply List.mem_cons_of_mem)) (by repeat (first | exact List.mem_cons_self | apply List.mem_cons_of_mem)) rfl rfl rfl rfl
omit hT in
theorem law5 (k : Int) (hX : XIn [.u64, .i64] w X) (hY : XIn [.u64] w Y) (hT : tot R1 R2 X Y < 4611686018427387904) : Calls Try.prog 5 (pV R1 R2 X Y k).toArray w (fun e w' => ∃ x, e = .returned x /\ R5 w x w') := by
 by_cases hb : 2000 < tot R1 R2 X Y
 · exact law5_great R1 R2 X Y k hT hb
 · have hT2 : tot R1 R2 X Y <= 2000 := by omega
   let ρ0 : Env := ⟨fun _ => k, fun _ => false, fun _ => default, fun _ => undef, fun _ => none, fun _ _ _ => 0⟩
   obtain ⟨r, hr, hr3⟩ := kT_den (ρ := ρ0) (k := k) rfl
   have all : ∀ ρ : Env, ρ.I 67 = k -> kT.den ρ = some r := fun ρ h => by
    rw [<- hr]
    simp only [kT, IT.den, h]; rfl
   rcases hr3 with rfl | rfl | rfl
   · exact law5_R R1 R2 X Y hT2 k hX all
   · exact law5_F R1 R2 X Y hT2 k hY all
   · exact law5_L R1 R2 X Y hT2 k all
end
end La
end Go.Proofs.Ytighjgmgpphohaa
end
section
namespace Go.Vm
open Go.ChangeShapes Go.WideShapes Go.ChangeAt Go.RowKit
def flatF (P : Program) (g : TypeId -> Option (List IntKind)) : Nat -> List Field -> Option (List IntKind)
 | _, [] => some []
 | off, f :: r => match g f.type with
  | some ks => cond (Nat.beq f.offset off && Nat.beq (P.cellsOf f.type) ks.length) ((flatF P g (off + ks.length) r).map (ks ++ ·)) none
  | none => none
def flat (P : Program) : Nat -> TypeId -> Option (List IntKind)
 | 0, _ => none
 | n + 1, t => match P.underlying t with
  | some (.int k) => some [k]
  | some (.struct fs) => match flatF P (flat P n) 0 fs.toList with
   | some ks => cond (Nat.beq (P.cellsOf t) ks.length) (some ks) none
   | none => none
  | _ => none
section
variable {H : Type} {enc : TypeId × Value -> H} {P : Program} {W : World} {base : Nat} {sp : Nat -> Bool} {held : Bool}
def CellOk (ks : List IntKind) (cs : List Value) : Prop := cs.length = ks.length /\ ∀ (j : Nat) k, ks[j]? = some k -> ∃ z : Int, cs[j]? = some (Value.int k z) /\ k.min <= z /\ z <= k.max
theorem flatF_ok {g : TypeId -> Option (List IntKind)} {m : Nat} (hg : ∀ t ks cs x, g t = some ks -> DataW.trod enc P W base sp held m t cs = some x -> CellOk ks cs) {cs : List Value} {xs : List (DataW H × List MemPlace)} :
 ∀ (fs : List Field) (off : Nat) (ks : List IntKind), flatF P g off fs = some ks -> (∀ (i : Nat) f, fs[i]? = some f -> ∃ y, DataW.trod enc P W base sp held m f.type ((cs.drop f.offset).take (P.cellsOf f.type)) = some y) ->
  ∀ (j : Nat) k, ks[j]? = some k -> ∃ z : Int, cs[off + j]? = some (Value.int k z) /\ k.min <= z /\ z <= k.max
 | [], off, ks, h, _, j, k, hk => by cases h; simp at hk
 | f :: r, off, ks, h, hx, j, k, hk => by
  simp only [flatF] at h
  split at h
  rotate_left
  · cases h
  rename_i ks1 hks
  cases hb : (Nat.beq f.offset off && Nat.beq (P.cellsOf f.type) ks1.length) with
  | false => rw [hb] at h; cases h
  | true =>
  rw [hb] at h
  simp only [cond_true] at h
  obtain ⟨ks2, h2, rfl⟩ := Option.map_eq_some_iff.1 h
  simp only [Bool.and_eq_true] at hb
  have e1 := Nat.eq_of_beq_eq_true hb.1
  have e2 := Nat.eq_of_beq_eq_true hb.2
  obtain ⟨y, hy⟩ := hx 0 f rfl
  obtain ⟨c1, c2⟩ := hg _ _ _ _ hks hy
  rcases Nat.lt_or_ge j ks1.length with hj | hj
  · rw [List.getElem?_append_left hj] at hk
    obtain ⟨z, hz, hr⟩ := c2 j k hk
    rw [List.getElem?_take_of_lt (by omega), List.getElem?_drop, e1] at hz
    exact ⟨z, hz, hr⟩
  · rw [List.getElem?_append_right hj] at hk
    have := flatF_ok hg (xs := xs) r (off + ks1.length) ks2 h2 (fun i f hf => hx (i + 1) f (by simpa using hf)) (j - ks1.length) k hk
    rwa [show off + ks1.length + (j - ks1.length) = off + j by omega] at this
theorem flat_ok : ∀ (n : Nat) (t : TypeId) (ks : List IntKind) (m : Nat) (cs : List Value) (x : DataW H × List MemPlace), flat P n t = some ks -> DataW.trod enc P W base sp held m t cs = some x -> CellOk ks cs := by
 intro n
 induction n with
 | zero => intro t ks m cs x h; cases h
 | succ n ih =>
  intro t ks m cs x h hf
  simp only [flat] at h
  split at h
  · rename_i k hu
    cases h
    obtain ⟨z, rfl, _, hw⟩ := DataW.trod_int hu hf
    simp only [Lit.wf, Bool.and_eq_true, decide_eq_true_eq] at hw
    refine ⟨rfl, fun j k' hk => ?_⟩
    cases j with
    | zero => simp at hk; subst hk; exact ⟨z, rfl, hw.1, hw.2⟩
    | succ j => simp at hk
  · rename_i fs hu
    split at h
    rotate_left
    · cases h
    rename_i ks' hks
    cases hb : Nat.beq (P.cellsOf t) ks'.length with
    | false => rw [hb] at h; cases h
    | true =>
    rw [hb] at h; cases h
    obtain ⟨xs, m', rfl, _, hl, hlen, hx⟩ := DataW.trod_struct hu hf
    refine ⟨by rw [hl, Nat.eq_of_beq_eq_true hb], fun j k hk => ?_⟩
    have := flatF_ok (cs := cs) (xs := xs) (fun t ks cs x h1 h2 => ih t ks m' cs x h1 h2) fs.toList 0 _ hks (fun i f hf' => by
     have hf2 : fs[i]? = some f := by simpa using hf'
     have hi : i < xs.length := by rw [hlen]; exact (Array.getElem?_eq_some_iff.1 hf2).1
     exact ⟨xs[i], by rw [hx i f hf2, List.getElem?_eq_getElem hi]⟩) j k hk
    simpa using this
  · cases h
def InRow (ks : List IntKind) (m : Nat) (u : Value) : Prop := (∀ i j k, i < m -> ks[j]? = some k -> k.min <= selI u (i * ks.length + j) /\ selI u (i * ks.length + j) <= k.max) /\ ∀ i, m * ks.length <= i -> selI u i = 0
theorem open_rowsR {t e : TypeId} {ks : List IntKind} {r : Reach} {b0 f : Nat} {v : Value} {d : DataW H} {p : List MemPlace} (ht : P.underlying t = some (.slice e)) (hc : P.cellsOf e = ks.length) (hk : 0 < ks.length) (he : flat P f e = some ks)
 (hv : Value.okWide P W r b0 t v) (h : DataW.Trod enc P W base sp held t v d p) :
 v = .slice none 0 0 ∨ ∃ b o len cap : Nat, v = .slice (some ⟨b, o, none⟩) len cap /\ len <= 9223372036854775807 /\ (0 < len -> ∃ u, RowAt W b o ks len u /\ InRow ks len u) := by
 obtain ⟨fuel, hf⟩ := h
 obtain ⟨a0, l0, c0, rfl⟩ := okWide_slice ht hv
 rcases DataW.trod_slice ht hf with ⟨h0, _⟩ | ⟨a, len, cap, elems, rest, n, _, hcs, _, _, hl, hm, hlen, hel, _, _⟩
 · exact .inl (List.cons.inj h0).1
 · obtain ⟨rfl, rfl, rfl⟩ : a0 = some a /\ l0 = len /\ c0 = cap := by simpa [Value.cells] using hcs
   simp only [Value.okWide, ht, Cell.okWide, Cell.ok] at hv
   obtain ⟨_, _, _, hspot, row, cells, hsh, _⟩ := hv
   obtain ⟨b, o, s⟩ := a
   simp only at hspot
   subst hspot
   refine .inr ⟨b, o, l0, c0, rfl, Nat.le_trans hl (Nat.le_trans hm (by decide)), fun h0 => ?_⟩
   obtain ⟨c, el, fr, hg⟩ : ∃ c el fr, W.heap[b]? = some (.cells c el fr) := by
    simp only [World.shape?] at hsh
    split at hsh
    · rename_i c el fr hg; exact ⟨c, el, fr, hg⟩
    · cases hsh
   have cell : ∀ i j k, i < l0 -> ks[j]? = some k -> ∃ z, c[o + (i * ks.length + j)]? = some (.int k z) /\ k.min <= z /\ z <= k.max := fun i j k hi hkj => by
    have hi' := hel i hi
    obtain ⟨x, hx⟩ : ∃ x, elems[i]? = some x := ⟨elems[i]'(by omega), by simp [hlen, hi]⟩
    rw [hx, Option.bind_eq_some_iff] at hi'
    obtain ⟨cs, hcs, htr⟩ := hi'
    rw [hc] at hcs
    obtain ⟨_, hl2, hcell⟩ := World.cells?_some hcs
    obtain ⟨z, hz, hzr⟩ := (flat_ok f e ks n cs x he htr).2 j k hkj
    have hj : j < ks.length := (List.getElem?_eq_some_iff.1 hkj).1
    have h1 := hcell j hj
    rw [hz, addr_add, addr_add, cell_of W hg] at h1
    exact ⟨z, by rw [<- Nat.add_assoc]; exact h1, hzr⟩
   have hsz : o + l0 * ks.length <= c.size := by
    obtain ⟨k, hkk⟩ : ∃ k, ks[ks.length - 1]? = some k := ⟨ks[ks.length - 1]'(by omega), by simp⟩
    obtain ⟨z, hz, _⟩ := cell (l0 - 1) (ks.length - 1) k (by omega) hkk
    have h1 := (Array.getElem?_eq_some_iff.1 hz).1
    obtain ⟨m, rfl⟩ : ∃ m, l0 = m + 1 := ⟨l0 - 1, by omega⟩
    rw [Nat.add_sub_cancel] at h1
    rw [Nat.add_mul, Nat.one_mul]
    omega
   have inn : ∀ i j k, i < l0 -> ks[j]? = some k -> ∃ z, ((c.toList.drop o).take (l0 * ks.length))[i * ks.length + j]? = some (.int k z) /\ k.min <= z /\ z <= k.max := fun i j k hi hkj => by
    obtain ⟨z, hz, hzr⟩ := cell i j k hi hkj
    have hj : j < ks.length := (List.getElem?_eq_some_iff.1 hkj).1
    have hlt : i * ks.length + j < l0 * ks.length := by
     have := Nat.mul_le_mul_right ks.length (show i + 1 <= l0 by omega)
     rw [Nat.add_mul, Nat.one_mul] at this
     omega
    exact ⟨z, by rw [List.getElem?_take_of_lt hlt, List.getElem?_drop]; simpa using hz, hzr⟩
   refine ⟨.agg ((c.toList.drop o).take (l0 * ks.length)).toArray, ⟨c, fr, el, (c.toList.drop o).take (l0 * ks.length), hg, by simp [aggCells], by omega, List.take_prefix _ _, by simp; omega, fun i j k hi hkj => ?_⟩, fun i j k hi hkj => ?_, fun i hi => ?_⟩
   · obtain ⟨z, hz, _⟩ := inn i j k hi hkj
     exact ⟨z, hz⟩
   · obtain ⟨z, hz, hzr⟩ := inn i j k hi hkj
     rw [selI_of (c := (c.toList.drop o).take (l0 * ks.length)) (by simp [aggCells]) hz]
     exact hzr
   · have hn : ((c.toList.drop o).take (l0 * ks.length))[i]? = none := List.getElem?_eq_none (by simp; omega)
     simp only [selI, List.getElem?_toArray, hn]
end
end Go.Vm
end
