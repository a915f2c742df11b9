/-
  LinearSearch (11): the loop of 'on'.
-/
import Derived.Test.YtpgonpjakllnjaaLs10
section
namespace Go.Proofs.Ytpgonpjakllnjaa
open Go.Vm Go.Vm.Md Lm Lt
namespace Ls

theorem scanO {β : Base} {R : Value → World → Prop} (J : Bool → Env → Prop) (μ : Env → Nat)
    (hs : ∀ z ρ, J z ρ → GP.at β.G ρ → CRel ρ (TOn z).cs → (∀ z' ρ', μ ρ' < μ ρ → J z' ρ' → ∀ todo a w, todo = .inLoop L21 :: Q21 ∨ todo = .code (.loop L21) :: Q21 → SRel β ρ' ((TOn z').st todo) a w → Goes Try.prog 21 R todo a w) → ∃ c l, CallOk Try.prog β (spZ z) ∧ CRel ρ c ∧ RO z c l ∧ MGoodO Try.prog β 21 R rsOn tsOn ρ l) :
    ∀ z ρ, J z ρ → ∀ todo a w, todo = .inLoop L21 :: Q21 ∨ todo = .code (.loop L21) :: Q21 → SRel β ρ ((TOn z).st todo) a w → Goes Try.prog 21 R todo a w := by
  suffices H : ∀ N z ρ, μ ρ = N → J z ρ → ∀ todo a w, todo = .inLoop L21 :: Q21 ∨ todo = .code (.loop L21) :: Q21 → SRel β ρ ((TOn z).st todo) a w → Goes Try.prog 21 R todo a w from fun z ρ => H _ z ρ rfl
  intro N
  induction N using Nat.strongRecOn with
  | _ N ih =>
    intro z ρ hN hJ todo a w htd r
    obtain ⟨c, l, hsp, h1, h2, h3⟩ := hs z ρ hJ r.h.g r.c fun z' ρ' hlt hJ' todo' a' w' ht' r' => ih (μ ρ') (by omega) z' ρ' rfl hJ' todo' a' w' ht' r'
    obtain ⟨ls, hls, hsum⟩ := Option.map_eq_some_iff.1 h2
    have key : Goes Try.prog 21 R (.code L21 :: .inLoop L21 :: Q21) a w := run_sound noCount noExt hsp follows 4000 true 21 _ ls ρ a w _ hls ⟨r.d, r.n, r.t, r.h, CRel_app.2 ⟨h1, r.c⟩⟩ (m_allO (g := gM) (L := [2, 3]) (sums := ls.filterMap (sumMO gM [2, 3] rsOn tsOn)) rfl (dcsM hsum (Go.Vm.one h3)))
    rcases htd with rfl | rfl
    · exact Goes.one (fun cs => step_inLoop) key
    · exact Goes.one (fun cs => step_loop) key
section
variable {e : Sd} {vm : Value} {w : World} {bs : Nat} {oA : Option Nat} {v0 v1 vl : Value}
theorem stepO {z : Bool} {t : Nat} {it : IT} {ρ : Env} (j : J21 e bs oA v0 v1 vl z t ρ) {t' : Nat} (ht : it.den ρ = some (t' : Int)) (hle : t' ≤ e.L.length) (no : firstS e.try_ t' = none) : J21 e bs oA v0 v1 vl z t' ((sOn z it).app ρ) := by
  have hI : ((sOn z it).I.all fun p => Nat.blt p.1 30) = true := by cases z <;> rfl
  have k30 : ∀ i, 30 ≤ i → ((sOn z it).app ρ).I i = ρ.I i := fun i hi => keep30 hI ρ hi
  refine ⟨j.o.app (fun h => by subst h; rfl) (fun h => by subst h; rfl), sbI (t := it) (by cases z <;> rfl) ht, hle, ?_, ?_, ?_, ?_, ?_, no⟩
  · cases z <;> exact j.n2
  · cases z <;> exact j.n3
  · rw [SL_up (ρ := ρ) (by cases z <;> rfl) k30]; exact j.s0
  · rw [SO_up (ρ := ρ) (by cases z <;> rfl) k30]; exact j.s1
  · rw [lv_up (ρ := ρ) (by cases z <;> rfl) (by cases z <;> rfl) k30]; exact j.sl
theorem stepR {z : Bool} {t : Nat} {ρ : Env} (hg : (Gs e vm).at ρ) (j : J21 e bs oA v0 v1 vl z t ρ) (hlt : t < e.L.length) (hl : e.L.length ≤ 60) (no : firstS e.try_ (t + 1) = none) : J21 e bs oA v0 v1 vl true (t + 1) ((sRe z).app ρ) := by
  have k30 : ∀ i, 30 ≤ i → ((sRe z).app ρ).I i = ρ.I i := fun i hi => keep30 (by cases z <;> rfl) ρ hi
  have e9 : at9.den ρ = some (t : Int) := varD j.i9
  obtain ⟨_, s70⟩ := sub71 hg j.o.le
  have qc : (cO0 z).den ρ = some (encL e.O) := by
    cases z with
    | false => rw [j.o.no rfl]; rfl
    | true => exact varD (j.o.i21 rfl)
  refine ⟨⟨fun _ => sbI (t := lesT) (by cases z <;> rfl) s70, fun _ => sbI (t := cO0 z) (by cases z <;> rfl) qc, (fun h => by cases h), j.o.le⟩, sbI (t := up9) (by cases z <;> rfl) (upD e9 (by omega)), hlt, ?_, ?_, ?_, ?_, ?_, no⟩
  · cases z <;> exact j.n2
  · cases z <;> exact j.n3
  · rw [SL_up (ρ := ρ) (by cases z <;> rfl) k30]; exact j.s0
  · rw [SO_up (ρ := ρ) (by cases z <;> rfl) k30]; exact j.s1
  · rw [lv_up (ρ := ρ) (by cases z <;> rfl) (by cases z <;> rfl) k30]; exact j.sl
/-- It was found. -/
theorem endYes {z : Bool} {t : Nat} {ρ : Env} {R : List Int} (j : J21 e bs oA v0 v1 vl z t ρ) (hR : e.rc t = some R) (hres : e.res = some R) :
    MGoodO Try.prog ⟨w, [2, 3], Gs e vm⟩ 21 (fun v w' => OnPost w w' bs v0 v1 e.O oA vl e.res v) rsOn tsOn ρ (.done 0 [] sYes) := by
  refine doneR (T := EYes) rfl (fun l hl => ?_) fun ρ' hle hG => ⟨gsKeep rfl rfl hG, (fun p hp => by cases hp), fun x w2 r => ?_⟩
  · simp only [List.mem_cons, List.not_mem_nil, or_false] at hl
    rcases hl with rfl | rfl <;> rfl
  have j' := j.of_le hle
  have e9 : at9.den ρ' = some (t : Int) := varD j'.i9
  have e83 : (IT.fn 83 at9 (.lit 0)).den ρ' = some (encL R) := by
    rw [fnD e9 (litD 0), hG.2.2.2.2.2.2.1]
    show some (encL ((e.rc ((t : Int)).toNat).getD [])) = _
    rw [Int.toNat_natCast, hR]; rfl
  have e84 : (IT.fn 84 at9 (.lit 0)).den ρ' = some (R.length : Int) := by
    rw [fnD e9 (litD 0), hG.2.2.2.2.2.2.2.1]
    show some ((((e.rc ((t : Int)).toNat).getD []).length : Nat) : Int) = _
    rw [Int.toNat_natCast, hR]; rfl
  have k30 : ∀ i, 30 ≤ i → (sYes.app ρ').I i = ρ'.I i := fun i hi => keep30 rfl ρ' hi
  have g2 : (ofP EYes.H).get 2 = some ⟨.cells [SL .row, SO .row, .slice 5 (.lit 0) (.var 20) (.nv 10)] 56 (some (13, 1)), true⟩ := rfl
  obtain ⟨a, cap, hrow, hoA, hov⟩ := ordEnd (oA := oA) (bs := bs) (L := R) r.h (show (ofP EYes.H).get 5 = some (orB 10 (.var 21) (.var 20)) from rfl) g2 j'.n2 j'.n3 (sbI (t := .fn 84 at9 (.lit 0)) rfl e84) (sbI (t := .fn 83 at9 (.lit 0)) rfl e83)
  obtain ⟨b2, o2, hN2, ho2, xs, c, fr, rfl, hd, hp, _, hf⟩ := r.h.blk _ _ g2
  obtain rfl : b2 = bs := Option.some.inj (hN2.symm.trans j'.n2)
  have q0 : (SL .row).den (sYes.app ρ') = some v0 := by rw [SL_up (ρ := ρ') (ρ2 := sYes.app ρ') rfl k30]; exact j'.s0
  have q1 : (SO .row).den (sYes.app ρ') = some v1 := by rw [SO_up (ρ := ρ') (ρ2 := sYes.app ρ') rfl k30]; exact j'.s1
  have hov' : (AVal.slice 5 (.lit 0) (.var 20) (.nv 10)).den (sYes.app ρ') = some (.slice (some ⟨a, 0, none⟩) R.length cap) := hov
  simp only [AVal.denL, q0, q1, hov', Option.some.injEq] at hd
  subst hd
  obtain ⟨rest, hrest⟩ := hp
  obtain ⟨y, hy, he⟩ := r.t 0 _ rfl
  obtain rfl : x = y := Option.some.inj he
  obtain rfl : x = .bool true := (Option.some.inj hy).symm
  refine ⟨by rw [hres]; rfl, ⟨some a, (fun a' h => by cases h; exact hoA), (fun h => by rw [hres] at h; cases h), fun R' h => ?_⟩, r.h.size, same21 r.h j'.n2 j'.n3, r.h.tape, r.h.os, r.h.out⟩
  rw [hres] at h; cases h
  exact ⟨c, fr, _, rest, ho2, hrest.symm, hf rfl, cap, rfl, hrow⟩
/-- As it was. -/
theorem endAs {z b : Bool} {t : Nat} {ρ : Env} (j : J21 e bs oA v0 v1 vl z t ρ) (hres : e.res = if b = true then some e.O else none) :
    MGoodO Try.prog ⟨w, [2, 3], Gs e vm⟩ 21 (fun v w' => OnPost w w' bs v0 v1 e.O oA vl e.res v) rsOn tsOn ρ (.done (qA z b) [] (sAs z)) := by
  refine doneR (T := EAs z b) (by cases z <;> cases b <;> rfl) (fun l hl => ?_) fun ρ' hle hG => ⟨gsKeep (by cases z <;> rfl) (by cases z <;> rfl) hG, (fun p hp => by cases hp), fun x w2 r => ?_⟩
  · simp only [List.mem_cons, List.not_mem_nil, or_false] at hl
    rcases hl with rfl | rfl <;> cases z <;> rfl
  have j' := j.of_le hle
  have k30 : ∀ i, 30 ≤ i → ((sAs z).app ρ').I i = ρ'.I i := fun i hi => keep30 (by cases z <;> rfl) ρ' hi
  have g2 : (ofP (EAs z b).H).get 2 = some (stB z) := by cases z <;> rfl
  have n2 : ((sAs z).app ρ').N 2 = some bs := by cases z <;> exact j'.n2
  have n3 : ((sAs z).app ρ').N 3 = some (oA.getD bs) := by cases z <;> exact j'.n3
  have hv : ∃ oA' vo, (∀ a, oA' = some a → oA = some a ∨ w.heap.size ≤ a) ∧ (ov z).den ((sAs z).app ρ') = some vo ∧ OrdIn w2 e.O vo oA' := by
    cases z with
    | false => exact ⟨none, .slice none 0 0, (fun a h => by cases h), rfl, rfl, j'.o.no rfl⟩
    | true =>
      obtain ⟨a, cap, hrow, hoA, hov⟩ := ordEnd (oA := oA) (bs := bs) (L := e.O) r.h (show (ofP (EAs true b).H).get 5 = some (orB 10 (.var 21) (.var 20)) from rfl) g2 n2 n3 (sbI (t := .var 20) rfl (varD (j'.o.i20 rfl))) (sbI (t := .var 21) rfl (varD (j'.o.i21 rfl)))
      exact ⟨some a, _, (fun a' h => by cases h; exact hoA), hov, cap, rfl, hrow⟩
  obtain ⟨oA', vo, hoA, hov, hord⟩ := hv
  obtain ⟨b2, o2, hN2, ho2, xs, c, fr, rfl, hd, hp, ht, hf⟩ := r.h.blk _ _ g2
  obtain rfl : b2 = bs := Option.some.inj (hN2.symm.trans n2)
  have q0 : (SL .row).den ((sAs z).app ρ') = some v0 := by rw [SL_up (ρ := ρ') (by cases z <;> rfl) k30]; exact j'.s0
  have q1 : (SO .row).den ((sAs z).app ρ') = some v1 := by rw [SO_up (ρ := ρ') (by cases z <;> rfl) k30]; exact j'.s1
  have q2 : lv.den ((sAs z).app ρ') = some vl := by rw [lv_up (ρ := ρ') (by cases z <;> rfl) (by cases z <;> rfl) k30]; exact j'.sl
  have hcl := cells_list hd hp ht
  simp only [AVal.denL, q0, q1, q2, hov, Option.some.injEq] at hd
  subst hd
  obtain ⟨y, hy, he⟩ := r.t 0 _ rfl
  obtain rfl : x = y := Option.some.inj he
  obtain rfl : x = .bool b := (Option.some.inj hy).symm
  refine ⟨by rw [hres]; cases b <;> rfl, ⟨oA', hoA, fun h => ⟨c, fr, vo, ho2, hcl, hf rfl, hord⟩, fun R' h => ?_⟩, r.h.size, same21 r.h n2 n3, r.h.tape, r.h.os, r.h.out⟩
  rw [hres] at h
  cases b with
  | false => cases h
  | true =>
    obtain rfl : e.O = R' := Option.some.inj h
    exact ⟨c, fr, vo, [vl], ho2, hcl, hf rfl, hord⟩
end
end Ls
end Go.Proofs.Ytpgonpjakllnjaa
end

/-
  LinearSearch (12): 'on', of any search.
-/
section
namespace Go.Proofs.Ytpgonpjakllnjaa
open Go.Vm Go.Vm.Md Lm Lt
namespace Ls

-- NAMES
noncomputable def IdS (e : Sd) : Nat → Int := fun i => match lk (e.pinsS ++ pins e.d) i with
  | some x => x
  | none => 0
noncomputable def FS (e : Sd) : Nat → Int → Int → Int := fun k => if k = 80 then e.g80 else if k = 81 then e.g81 else if k = 82 then e.g82 else if k = 83 then e.g83 else if k = 84 then e.g84 else if k = 85 then e.g85 else if k = 86 then e.g86 else if k = 87 then e.g87 else Lt.Fd e.d k
noncomputable def envS (e : Sd) (o0 c0 o1 : Nat) (N : Nat → Option Nat) : Env :=
  ⟨fun i => if i = 62 then (o0 : Int) else if i = 63 then (c0 : Int) else if i = 64 then (o1 : Int) else if i = 20 then (e.O.length : Int) else if i = 21 then encL e.O else IdS e i, fun _ => false, fun _ => default, fun _ => undef, N, FS e⟩
theorem IdS_d (e : Sd) : ∀ p ∈ pins e.d, IdS e p.1 = p.2 := fun p hp => by
  simp only [pins, List.mem_cons, List.not_mem_nil, or_false] at hp
  rcases hp with rfl | rfl | rfl | rfl | rfl | rfl | rfl | rfl | rfl | rfl | rfl | rfl | rfl | rfl | rfl | rfl <;> rfl
theorem IdS_s (e : Sd) : ∀ p ∈ e.pinsS, IdS e p.1 = p.2 := fun p hp => by
  simp only [Sd.pinsS, List.mem_cons, List.not_mem_nil, or_false] at hp
  rcases hp with rfl | rfl | rfl | rfl | rfl | rfl | rfl <;> rfl
theorem envS_G (e : Sd) (o0 c0 o1 : Nat) (N : Nat → Option Nat) : (Gs e undef).at (envS e o0 c0 o1 N) := by
  refine ⟨⟨fun p hp => ?_, ⟨rfl, rfl, rfl, rfl, rfl, rfl, rfl⟩, rfl, rfl, rfl, rfl, rfl, rfl, rfl, rfl⟩, fun p hp => ?_, rfl, rfl, rfl, rfl, rfl, rfl, rfl, rfl, rfl⟩
  · have h1 := IdS_d e p hp
    simp only [pins, List.mem_cons, List.not_mem_nil, or_false] at hp
    rcases hp with rfl | rfl | rfl | rfl | rfl | rfl | rfl | rfl | rfl | rfl | rfl | rfl | rfl | rfl | rfl | rfl <;> exact h1
  · have h1 := IdS_s e p hp
    simp only [Sd.pinsS, List.mem_cons, List.not_mem_nil, or_false] at hp
    rcases hp with rfl | rfl | rfl | rfl | rfl | rfl | rfl <;> exact h1
/-- These blocks; those that may be written are 'own', under whatever names. -/
theorem _root_.Go.Vm.HRel.ownedN {w : World} {ρ : Env} {G : GP} {nl : Nat} {own : List Nat} (L : List (Nat × HB)) (h : ∀ p ∈ L, ∃ b o, ρ.N p.1 = some b ∧ w.heap[b]? = some o ∧ p.2.k.rel ρ p.2.rw o) (inj : ∀ p ∈ L, ∀ q ∈ L, p.2.rw = true → ρ.N p.1 = ρ.N q.1 → p.1 = q.1) (ho : ∀ p ∈ L, p.2.rw = true → ∃ l' ∈ own, ρ.N l' = ρ.N p.1)
    (hN : ∀ i, nl ≤ i → ρ.N i = none) (hown : ∀ l ∈ own, l < nl) (hG : G ρ.I ρ.B ρ.S ρ.V ρ.F) (hnb : (L.all fun p => p.2.k.nb) = true) : HRel ⟨w, own, G⟩ ρ (ofP L) nl w := by
  refine ⟨fun l k hl => ?_, fun l l' k k' hl hl' hr he => ?_, fun l k b' hl hr hb => ?_, hN, hown, Nat.le_refl _, fun _ _ _ => rfl, rfl, rfl, rfl, hG, BigAt.none fun l k hl => ?_⟩
  · exact h _ (ofP_mem hl)
  · exact inj _ (ofP_mem hl) _ (ofP_mem hl') hr he
  · obtain ⟨l', h1, h2⟩ := ho _ (ofP_mem hl) hr
    exact .inr ⟨l', h1, h2.trans hb⟩
  · exact List.all_eq_true.1 hnb _ (ofP_mem hl)
theorem _root_.Go.Vm.HRel.raise {β : Base} {ρ : Env} {H : Heap} {nl nl' : Nat} {w : World} (h : HRel β ρ H nl w) (hle : nl ≤ nl') : HRel β ρ H nl' w :=
  ⟨h.blk, h.inj, h.own, fun i hi => h.fresh i (by omega), fun l hl => by have := h.ownN l hl; omega, h.size, h.frame, h.tape, h.os, h.out, h.g, h.big⟩
def hS (z : Bool) : List (Nat × HB) := [(2, stB z), (0, ⟨bL, false⟩), (1, ⟨bO, false⟩), (4, ⟨bL4, false⟩)] ++ e3 z
theorem hS_on (z : Bool) : ∀ l k1, (ofP (hOn z)).get l = some k1 → (l = 12 ∧ k1 = ⟨.big 0 (.var 68), false⟩) ∨ (l ≠ 12 ∧ (ofP (hS z)).get l = some k1) := fun l k1 h => by
  have h := ofP_mem h
  cases z <;> simp only [hOn, e3, List.cons_append, List.nil_append, List.append_nil, List.mem_cons, Prod.mk.injEq, List.not_mem_nil, or_false] at h
  · rcases h with ⟨rfl, rfl⟩ | ⟨rfl, rfl⟩ | ⟨rfl, rfl⟩ | ⟨rfl, rfl⟩ | ⟨rfl, rfl⟩
    · exact .inr ⟨by decide, rfl⟩
    · exact .inr ⟨by decide, rfl⟩
    · exact .inr ⟨by decide, rfl⟩
    · exact .inr ⟨by decide, rfl⟩
    · exact .inl ⟨rfl, rfl⟩
  · rcases h with ⟨rfl, rfl⟩ | ⟨rfl, rfl⟩ | ⟨rfl, rfl⟩ | ⟨rfl, rfl⟩ | ⟨rfl, rfl⟩ | ⟨rfl, rfl⟩
    · exact .inr ⟨by decide, rfl⟩
    · exact .inr ⟨by decide, rfl⟩
    · exact .inr ⟨by decide, rfl⟩
    · exact .inr ⟨by decide, rfl⟩
    · exact .inl ⟨rfl, rfl⟩
    · exact .inr ⟨by decide, rfl⟩
theorem anyT_fst (p : Nat → Bool) (n : Nat) : (intCmp .geq (fstT p n) 0) = some (anyT p n) := by
  rw [← fstT_ge]; rfl
section
variable {e : Sd} {vm : Value} {w : World} {bs : Nat} {oA : Option Nat} {v0 v1 vl : Value}
theorem onLoop (ok : SOk e) (hO : e.O.length + e.L.length ≤ 60) (hf : e.f = e.L.length) (ih : ∀ n, n + 1 = e.L.length → OnC e.d n) (hnd : doneP e.d e.O = false) :
    ∀ z ρ, (∃ t, J21 e bs oA v0 v1 vl z t ρ) → ∀ todo a w', todo = .inLoop L21 :: Q21 ∨ todo = .code (.loop L21) :: Q21 → SRel ⟨w, [2, 3], Gs e vm⟩ ρ ((TOn z).st todo) a w' → Goes Try.prog 21 (fun v w' => OnPost w w' bs v0 v1 e.O oA vl e.res v) todo a w' := by
  have hl := ok.l
  have hres : e.res = firstS e.try_ e.L.length := by
    show (if doneP e.d e.O = true then some e.O else firstS (tryP e.d (onP e.d e.f) e.mo e.O e.L) e.L.length) = _
    rw [hnd, if_neg (by decide)]; rfl
  refine scanO (fun z ρ => ∃ t, J21 e bs oA v0 v1 vl z t ρ) (fun ρ => ((e.L.length : Int) - ρ.I 9).toNat) fun z ρ ⟨t, j⟩ hg hcs ih2 => ?_
  have hsp : CallOk Try.prog ⟨w, [2, 3], Gs e vm⟩ (spZ z) := spL_ok fun p hp => by
    simp only [List.mem_cons, List.not_mem_nil, or_false] at hp
    rcases hp with rfl | rfl | rfl | rfl | rfl | rfl
    · exact spIx_ok ok rfl j.o.no
    · exact spClo_ok
    · exact spApply_ok fun _ _ _ _ _ h => h.1.gw
    · exact spCl_ok rfl hl
    · exact spDel_ok rfl hl
    · exact spOn_ok ok rfl j.o.no hO hf ih
  have hd := gsD hg
  have e9 : at9.den ρ = some (t : Int) := varD j.i9
  have hi := j.le
  by_cases hlt : t < e.L.length
  · have ev : vL.den ρ = some (e.L.getD t 0) := lT_den hg e9
    have inv := ok.inL t hlt
    have e86 : (IT.fn 86 vL (.lit 0)).den ρ = some (fstT (freeQ e.d e.L (e.L.getD t 0)) e.L.length) := by
      rw [fnD ev (litD 0), hg.2.2.2.2.2.2.2.2.2.1]; rfl
    have ffr : ∀ b, anyT (freeQ e.d e.L (e.L.getD t 0)) e.L.length = b → CRel ρ (fr21 b) := fun b hb => CRel_app.2 ⟨qD e9 (pLn hg) (by simp [intCmp]; omega) (fun p hp => by cases hp), CRel_app.2 ⟨inL_ok hd ev inv, qD e86 (litD 0) (by rw [anyT_fst, hb]) (fun p hp => by cases hp)⟩⟩
    have hown : ∀ {it : IT}, ∀ l ∈ [2, 3], lk (sOn z it).N l = some l := fun {it} l hl => by
      simp only [List.mem_cons, List.not_mem_nil, or_false] at hl
      rcases hl with rfl | rfl <;> cases z <;> rfl
    have nxt : e.try_ t = none → MGoodO Try.prog ⟨w, [2, 3], Gs e vm⟩ 21 (fun v w' => OnPost w w' bs v0 v1 e.O oA vl e.res v) rsOn tsOn ρ (.next (qT z) (.inLoop L21 :: Q21) [] (sOn z up9)) := fun hn => nextR (T := TOn z) (by cases z <;> rfl) hown fun ρ' hle hG => by
      have j' := j.of_le hle
      have jn := stepO (it := up9) j' (upD (varD j'.i9) (by omega)) hlt (firstS_step j'.no hn)
      have hGn : (Gs e vm).at ((sOn z up9).app ρ') := gsKeep (by cases z <;> rfl) rfl hG
      exact ⟨hGn, jn.cs ok hGn, fun a w' r => ih2 z _ (by rw [jn.i9, j.i9]; omega) ⟨_, jn⟩ _ a w' (.inl rfl) r⟩
    cases hfr : anyT (freeQ e.d e.L (e.L.getD t 0)) e.L.length with
    | true =>
      exact ⟨_, _, hsp, ffr true hfr, o_not z, nxt (by rw [Sd.try_eq, if_neg]; simp only [Sd.at_, freeP, hfr]; simp)⟩
    | false =>
      have hfree : freeP e.d e.L (e.at_ t) = true := by simp only [Sd.at_, freeP, hfr]; rfl
      have e8 := rT_den hd ev 8
      have e68 : (IT.var 68).den ρ = some e.mo.code := pinS hg (by simp [Sd.pinsS])
      have eo : opL.den ρ = _ := opT_den (rT_den hd ev 2) (rT_den hd ev 3) (rT_den hd ev 4) (rT_den hd ev 5)
      obtain ⟨_, _, _, _, g70, g71, _⟩ := hd.gw
      have e70 : (IT.fn 70 (.var 68) opL).den ρ = some (e.d.go e.mo (e.L.getD t 0)).1.1 := by
        rw [fnD e68 eo, g70]; simp only [apO_enc]; rfl
      have e71 : (IT.fn 71 (.var 68) opL).den ρ = some (e.d.go e.mo (e.L.getD t 0)).1.2 := by
        rw [fnD e68 eo, g71]; simp only [apO_enc]; rfl
      have eal : alL.den ρ = some (!alP e.d e.mo (e.L.getD t 0)) := by
        unfold alL alP
        rw [notD (andD (by rw [cmpD e70 (rT_den hd ev 9)]; rfl : _ = some ((e.d.go e.mo (e.L.getD t 0)).1.1 == e.d.c (e.L.getD t 0) 9)) (by rw [cmpD e71 (rT_den hd ev 10)]; rfl : _ = some ((e.d.go e.mo (e.L.getD t 0)).1.2 == e.d.c (e.L.getD t 0) 10)))]
        rfl
      have e82 : (IT.fn 82 at9 (.lit 0)).den ρ = some (if (e.rc t).isSome then 1 else 0) := by
        rw [fnD e9 (litD 0), hg.2.2.2.2.2.1]
        show some (if (e.rc ((t : Int)).toNat).isSome then (1 : Int) else 0) = _
        rw [Int.toNat_natCast]
      have fon : ∀ b, (e.rc t).isSome = b → CRel ρ [(onT, b)] := fun b hb => Go.Vm.c1 (by
        unfold onT
        rw [cmpD e82 (litD 1), hb]; cases b <;> rfl) (fun p hp => by cases hp)
      have ownR : ∀ l ∈ [2, 3], lk (sRe z).N l = some l := fun l hl => by
        simp only [List.mem_cons, List.not_mem_nil, or_false] at hl
        rcases hl with rfl | rfl <;> cases z <;> rfl
      have back : okA e.d e.mo (e.at_ t) = true → e.rc t = none → MGoodO Try.prog ⟨w, [2, 3], Gs e vm⟩ 21 (fun v w' => OnPost w w' bs v0 v1 e.O oA vl e.res v) rsOn tsOn ρ (.next 0 (.inLoop L21 :: Q21) [] (sRe z)) := fun hok hn => nextR (T := TOn true) rfl ownR fun ρ' hle hG => by
        have j' := j.of_le hle
        have jn := stepR hG j' hlt hl (firstS_step j'.no (by rw [Sd.try_eq, if_pos ⟨hfree, hok⟩, hn]))
        have hGn : (Gs e vm).at ((sRe z).app ρ') := gsKeep (by cases z <;> rfl) rfl hG
        exact ⟨hGn, jn.cs ok hGn, fun a w' r => ih2 true _ (by rw [jn.i9, j.i9]; omega) ⟨_, jn⟩ _ a w' (.inl rfl) r⟩
      have yes : okA e.d e.mo (e.at_ t) = true → ∀ R, e.rc t = some R → MGoodO Try.prog ⟨w, [2, 3], Gs e vm⟩ 21 (fun v w' => OnPost w w' bs v0 v1 e.O oA vl e.res v) rsOn tsOn ρ (.done 0 [] sYes) := fun hok R hR => endYes j hR (by rw [hres]; exact firstS_at hlt j.no (by rw [Sd.try_eq, if_pos ⟨hfree, hok⟩, hR]))
      by_cases h8 : 0 ≤ e.d.c (e.L.getD t 0) 8
      · have q8 : ∀ b, (!alP e.d e.mo (e.L.getD t 0)) = b → CRel ρ (cls b) := fun b hb => qD e8 (litD 0) (by simp only [intCmp]; rw [decide_eq_true h8]) (Go.Vm.c1 (by rw [eal, hb]) (fun p hp => by cases hp))
        cases hal : alP e.d e.mo (e.L.getD t 0) with
        | false =>
          have hno : okA e.d e.mo (e.at_ t) = false := by
            show (!decide (0 ≤ e.d.c (e.L.getD t 0) 8) || alP e.d e.mo (e.L.getD t 0)) = false
            rw [hal, decide_eq_true h8]; rfl
          exact ⟨_, _, hsp, CRel_app.2 ⟨ffr false hfr, q8 true (by rw [hal]; rfl)⟩, o_un z, nxt (by rw [Sd.try_eq, if_neg (by rw [hno]; simp)])⟩
        | true =>
          have hok : okA e.d e.mo (e.at_ t) = true := by simp only [Sd.at_, okA, hal, Bool.or_true]
          cases hrc : e.rc t with
          | none => exact ⟨_, _, hsp, CRel_app.2 ⟨ffr false hfr, CRel_app.2 ⟨q8 false (by rw [hal]; rfl), fon false (by rw [hrc]; rfl)⟩⟩, o_nc z, back hok hrc⟩
          | some R => exact ⟨_, _, hsp, CRel_app.2 ⟨ffr false hfr, CRel_app.2 ⟨q8 false (by rw [hal]; rfl), fon true (by rw [hrc]; rfl)⟩⟩, o_oc z, yes hok R hrc⟩
      · have hok : okA e.d e.mo (e.at_ t) = true := by
          show (!decide (0 ≤ e.d.c (e.L.getD t 0) 8) || alP e.d e.mo (e.L.getD t 0)) = true
          rw [decide_eq_false h8]; rfl
        have q8 : CRel ρ opn := qD e8 (litD 0) (by simp only [intCmp]; rw [decide_eq_false h8]) (fun p hp => by cases hp)
        cases hrc : e.rc t with
        | none => exact ⟨_, _, hsp, CRel_app.2 ⟨ffr false hfr, CRel_app.2 ⟨q8, fon false (by rw [hrc]; rfl)⟩⟩, o_no z, back hok hrc⟩
        | some R => exact ⟨_, _, hsp, CRel_app.2 ⟨ffr false hfr, CRel_app.2 ⟨q8, fon true (by rw [hrc]; rfl)⟩⟩, o_on z, yes hok R hrc⟩
  · obtain rfl : t = e.L.length := by omega
    exact ⟨_, _, hsp, qD e9 (pLn hg) (by simp [intCmp]) (fun p hp => by cases hp), o_end z, endAs (b := false) j (by rw [hres, j.no]; rfl)⟩
end
section
variable {e : Sd} {w : World} {bs : Nat} {oA : Option Nat} {v0 v1 : Value}
def zOf : Option Nat → Bool
  | none => false
  | some _ => true
theorem onStep {e : Sd} (ih : ∀ n, n + 1 = e.L.length → OnC e.d n) (hn : e.L.length = e.f) {w : World} {bs : Nat} {v0 v1 : Value} {oA : Option Nat} {bm : Nat} {F : Nat → Prop} {b0 o0 c0 b1 o1 bL capL : Nat}
    (ok : SOk e) (hO : e.O.length + e.L.length ≤ 60) (a0 : AVr w ksR v0 e.d.n b0 o0 c0 (decL e.d.x)) (a1 : AVr w [.i64] v1 e.d.m b1 o1 e.d.q (decL e.d.y)) (hrL : RowRo w bL e.L) (hs : SIn w bs v0 v1 e.O oA (.slice (some ⟨bL, 0, none⟩) e.L.length capL))
    (hm : ModelIn w bm F e.mo.Q e.mo.M e.mo.S) (mok : ModOk e.mo.Q e.mo.M e.mo.S) (ne0 : bs ≠ b0) (ne1 : bs ≠ b1) (neL : bs ≠ bL) (hoA : ∀ a, oA = some a → a ≠ bs ∧ a ≠ b0 ∧ a ≠ b1 ∧ a ≠ bL ∧ ¬ F a) (fs : ¬ F bs) (f0 : ¬ F b0) (f1 : ¬ F b1) (fl : ¬ F bL) :
    Calls Try.prog 21 #[.pointer (some ⟨bs, 0, none⟩), .pointer (some ⟨bm, 0, none⟩)] w fun r w' => ∃ v, r = .returned v ∧ OnPost w w' bs v0 v1 e.O oA (.slice (some ⟨bL, 0, none⟩) e.L.length capL) e.res v := by
  obtain ⟨c, fr, vo, hos, hcl, hfr, hord⟩ := hs
  obtain ⟨rfl, n1, hlx, cc0, fr0, el0, hob0, hle0, hp0⟩ := a0
  obtain ⟨rfl, m1, hly, cc1, fr1, el1, hob1, hle1, hp1⟩ := a1
  obtain ⟨cL, frL, elL, hobL, hpL⟩ := hrL
  have hcs : c.size = 4 := by
    have : c.toList.length = 4 := by rw [hcl]; rfl
    simpa using this
  -- the order's row
  obtain ⟨capO, hO1⟩ : ∃ capO : Nat, ∀ a, oA = some a → vo = .slice (some ⟨a, 0, none⟩) e.O.length capO ∧ RowIn w a capO e.O := by
    cases oA with
    | none => exact ⟨0, fun a h => by cases h⟩
    | some a =>
      obtain ⟨cap, h1, h2⟩ := hord
      exact ⟨cap, fun a' h => by cases h; exact ⟨h1, h2⟩⟩
  have hz : zOf oA = false → e.O = [] ∧ vo = .slice none 0 0 := fun h => by
    cases oA with
    | none => exact ⟨hord.2, hord.1⟩
    | some a => cases h
  obtain ⟨N, hN⟩ : ∃ N : Nat → Option Nat, N = fun i => if i = 0 then some b0 else if i = 1 then some b1 else if i = 2 then some bs else if i = 3 then some (oA.getD bs) else if i = 4 then some bL else if i = 5 then oA else if i = 10 then some capO else if i = 11 then some capL else none := ⟨_, rfl⟩
  have N0 : N 0 = some b0 := by rw [hN]; rfl
  have N1 : N 1 = some b1 := by rw [hN]; rfl
  have N2 : N 2 = some bs := by rw [hN]; rfl
  have N3 : N 3 = some (oA.getD bs) := by rw [hN]; rfl
  have N4 : N 4 = some bL := by rw [hN]; rfl
  have N5 : N 5 = oA := by rw [hN]; rfl
  have N10 : N 10 = some capO := by rw [hN]; rfl
  have N11 : N 11 = some capL := by rw [hN]; rfl
  have Nn : ∀ i, 12 ≤ i → N i = none := fun i hi => by
    rw [hN]
    show (if i = 0 then some b0 else if i = 1 then some b1 else if i = 2 then some bs else if i = 3 then some (oA.getD bs) else if i = 4 then some bL else if i = 5 then oA else if i = 10 then some capO else if i = 11 then some capL else none) = none
    rw [if_neg (by omega), if_neg (by omega), if_neg (by omega), if_neg (by omega), if_neg (by omega), if_neg (by omega), if_neg (by omega), if_neg (by omega)]
  clear hN
  obtain ⟨ρ, hρ⟩ : ∃ ρ, ρ = envS e o0 c0 o1 N := ⟨_, rfl⟩
  have hG : (Gs e undef).at ρ := by rw [hρ]; exact envS_G e o0 c0 o1 N
  have hd := gsD hG
  have rN : ρ.N = N := by rw [hρ]; rfl
  have i62 : ρ.I 62 = (o0 : Int) := by rw [hρ]; rfl
  have i63 : ρ.I 63 = (c0 : Int) := by rw [hρ]; rfl
  have i64 : ρ.I 64 = (o1 : Int) := by rw [hρ]; rfl
  have i20 : ρ.I 20 = (e.O.length : Int) := by rw [hρ]; rfl
  have i21 : ρ.I 21 = encL e.O := by rw [hρ]; rfl
  have d0 : (SL .row).den ρ = some (.slice (some ⟨b0, o0, none⟩) e.d.n c0) := den_slice_of (by rw [rN]; exact N0) (varD i62) (pN hd) (varD i63)
  have d1 : (SO .row).den ρ = some (.slice (some ⟨b1, o1, none⟩) e.d.m e.d.q) := den_slice_of (by rw [rN]; exact N1) (varD i64) (pM hd) (pQ hd)
  have dl : lv.den ρ = some (.slice (some ⟨bL, 0, none⟩) e.L.length capL) := den_slice_of (by rw [rN]; exact N4) rfl (pLn hG) (nvD (by rw [rN]; exact N11))
  have dv : (ov (zOf oA)).den ρ = some vo := by
    cases hq : oA with
    | none => rw [(hz (by rw [hq]; rfl)).2]; rfl
    | some a =>
      rw [(hO1 a hq).1]
      exact den_slice_of (by rw [rN, N5, hq]) rfl (varD i20) (nvD (by rw [rN]; exact N10))
  have ord : Ord e (zOf oA) ρ := ⟨fun _ => i20, fun _ => i21, fun h => (hz h).1, ok.o⟩
  have relS : (stB (zOf oA)).k.rel ρ true (.cells c 56 fr) := ⟨[.slice (some ⟨b0, o0, none⟩) e.d.n c0, .slice (some ⟨b1, o1, none⟩) e.d.m e.d.q, vo, .slice (some ⟨bL, 0, none⟩) e.L.length capL], c, fr, rfl, by simp only [AVal.denL, d0, d1, dl, dv], by rw [hcl]; exact List.prefix_refl _, hcs, fun _ => hfr⟩
  have rel0 : Lt.bL.rel ρ false (.cells cc0 el0 fr0) := by
    refine ⟨rowOf ksR (decL e.d.x), cc0, fr0, el0, e.d.n, o0, rfl, (fun h => by cases h), by simp only [AT.den, pX hd, Option.map_some], varD i62, ⟨hle0, hp0⟩, pN hd, rowOf_typed hlx, trivial, fun h => by cases h⟩
  have rel1 : bO.rel ρ false (.cells cc1 el1 fr1) := by
    refine ⟨rowOf [.i64] (decL e.d.y), cc1, fr1, el1, e.d.m, o1, rfl, (fun h => by cases h), by simp only [AT.den, pY hd, Option.map_some], varD i64, ⟨hle1, hp1⟩, pM hd, rowOf_typed hly, trivial, fun h => by cases h⟩
  have relL : bL4.rel ρ false (.cells cL elL frL) := by
    refine ⟨rowOf [.i64] e.L, cL, frL, elL, e.L.length, 0, rfl, (fun h => by cases h), by simp only [AT.den, pL hG, Option.map_some, decL_encL], rfl, ⟨Nat.zero_le _, by rw [List.drop_zero, rowOf1]; exact hpL⟩, pLn hG, rowOf_typed (by simp), trivial, fun h => by cases h⟩
  have relO : ∀ a, oA = some a → ∃ o, w.heap[a]? = some o ∧ (orB 10 (.var 21) (.var 20)).k.rel ρ true o := fun a h => by
    obtain ⟨_, c3, fr3, h1, h2, h3, h4⟩ := hO1 a h
    exact ⟨_, h1, orB_rel h2 h3 h4 (varD i21) (varD i20) (by rw [rN]; exact N10)⟩
  have hmem : ∀ p ∈ hS (zOf oA), p = (2, stB (zOf oA)) ∨ p = (0, ⟨Lt.bL, false⟩) ∨ p = (1, ⟨bO, false⟩) ∨ p = (4, ⟨bL4, false⟩) ∨ ((∃ a, oA = some a) ∧ p = (5, orB 10 (.var 21) (.var 20))) := fun p hp => by
    cases hq : oA with
    | none =>
      rw [hq] at hp
      simp only [hS, zOf, e3, List.append_nil, List.mem_cons, List.not_mem_nil, or_false] at hp
      rcases hp with h | h | h | h
      · exact .inl h
      · exact .inr (.inl h)
      · exact .inr (.inr (.inl h))
      · exact .inr (.inr (.inr (.inl h)))
    | some a =>
      rw [hq] at hp
      simp only [hS, zOf, e3, List.cons_append, List.nil_append, List.mem_cons, List.not_mem_nil, or_false] at hp
      rcases hp with h | h | h | h | h
      · exact .inl h
      · exact .inr (.inl h)
      · exact .inr (.inr (.inl h))
      · exact .inr (.inr (.inr (.inl h)))
      · exact .inr (.inr (.inr (.inr ⟨⟨a, rfl⟩, h⟩)))
  have hr0 : HRel ⟨w, [2, 3], Gs e undef⟩ ρ (ofP (hS (zOf oA))) 12 w := by
    refine HRel.ownedN (hS (zOf oA)) (fun p hp => ?_) (fun p hp q hq hrw he => ?_) (fun p hp hrw => ?_) (fun i hi => by rw [rN]; exact Nn i hi) (fun l hl => ?_) hG (by cases zOf oA <;> rfl)
    · rcases hmem p hp with rfl | rfl | rfl | rfl | ⟨⟨a, ha⟩, rfl⟩
      · exact ⟨bs, _, by rw [rN]; exact N2, hos, relS⟩
      · exact ⟨b0, _, by rw [rN]; exact N0, hob0, rel0⟩
      · exact ⟨b1, _, by rw [rN]; exact N1, hob1, rel1⟩
      · exact ⟨bL, _, by rw [rN]; exact N4, hobL, relL⟩
      · obtain ⟨o, h1, h2⟩ := relO a ha
        exact ⟨a, o, by rw [rN, N5]; exact ha, h1, h2⟩
    · rw [rN] at he
      rcases hmem p hp with rfl | rfl | rfl | rfl | ⟨⟨a, ha⟩, rfl⟩
      · rcases hmem q hq with rfl | rfl | rfl | rfl | ⟨⟨a, ha⟩, rfl⟩
        · rfl
        · exfalso; rw [N2, N0] at he; exact ne0 (Option.some.inj he)
        · exfalso; rw [N2, N1] at he; exact ne1 (Option.some.inj he)
        · exfalso; rw [N2, N4] at he; exact neL (Option.some.inj he)
        · exfalso; rw [N2, N5, ha] at he; exact (hoA a ha).1 (Option.some.inj he).symm
      · cases hrw
      · cases hrw
      · cases hrw
      · rcases hmem q hq with rfl | rfl | rfl | rfl | ⟨⟨a', ha'⟩, rfl⟩
        · exfalso; rw [N2, N5, ha] at he; exact (hoA a ha).1 (Option.some.inj he)
        · exfalso; rw [N0, N5, ha] at he; exact (hoA a ha).2.1 (Option.some.inj he)
        · exfalso; rw [N1, N5, ha] at he; exact (hoA a ha).2.2.1 (Option.some.inj he)
        · exfalso; rw [N4, N5, ha] at he; exact (hoA a ha).2.2.2.1 (Option.some.inj he)
        · rfl
    · rcases hmem p hp with rfl | rfl | rfl | rfl | ⟨⟨a, ha⟩, rfl⟩
      · exact ⟨2, by simp, rfl⟩
      · cases hrw
      · cases hrw
      · cases hrw
      · exact ⟨3, by simp, by rw [rN, N3, N5, ha]; rfl⟩
    · simp only [List.mem_cons, List.not_mem_nil, or_false] at hl
      rcases hl with rfl | rfl <;> omega
  have e68 : (IT.var 68).den ρ = some e.mo.code := pinS hG (by simp [Sd.pinsS])
  have hr1 := hr0.bigOld (fun l k h => by
      rcases hmem _ (ofP_mem h) with h | h | h | h | ⟨_, h⟩ <;> (have := congrArg Prod.snd h; simp only at this; subst this; rfl)) (k := 0) (b := bm) (c := .var 68) (x := e.mo.code) (F := F) ⟨rfl, e.mo.Q, e.mo.M, e.mo.S, rfl, hm, mok⟩ e68 (fun l k1 y h hy he => by
      rw [rN] at he
      rcases hmem _ (ofP_mem h) with h | h | h | h | ⟨⟨a, ha⟩, h⟩ <;> (have hl := congrArg Prod.fst h; simp only at hl; subst hl)
      · rw [N2] at he; cases he; exact fs hy
      · rw [N0] at he; cases he; exact f0 hy
      · rw [N1] at he; cases he; exact f1 hy
      · rw [N4] at he; cases he; exact fl hy
      · rw [N5, ha] at he; exact (hoA a ha).2.2.2.2 (Option.some.inj he ▸ hy)) (hS_on (zOf oA))
  have hr2 := hr1.raise (show 12 + 1 ≤ 300 by omega)
  have hle : ρ.Le (ρ.put 12 bm) := Env.le_put (by rw [rN]; exact Nn 12 (by omega))
  have hGb : (Gs e undef).at (ρ.put 12 bm) := hr2.g
  have hx : AVal.denL (ρ.put 12 bm) aOn = some [.pointer (some ⟨bs, 0, none⟩), .pointer (some ⟨bm, 0, none⟩)] := denL2 (by
      have : (ρ.put 12 bm).N 2 = some bs := hle.n _ _ (by rw [rN]; exact N2)
      simp only [AVal.den, this]; rfl) (by simp only [AVal.den, Env.put_same]; rfl)
  have hE := dcE ok.d hd
  rw [ok.hl, ok.hk] at hE
  have hcsT : CRel (ρ.put 12 bm) (csT (zOf oA)) := CRel.mono hle (CRel_app.2 ⟨CRel_app.2 ⟨hE, n60 _ ok.l (pLn hG)⟩, ord.cs hG⟩)
  have e70 : (IT.var 70).den (ρ.put 12 bm) = some (fstT (doneQ e.d e.O) e.d.m) := pinS hGb (by simp [Sd.pinsS])
  have fdn : ∀ b, anyT (doneQ e.d e.O) e.d.m = b → CRel (ρ.put 12 bm) [q9 .geq (.var 70) (.lit 0) b] := fun b hb => qD e70 (litD 0) (by rw [anyT_fst, hb]) (fun p hp => by cases hp)
  have hsp : CallOk Try.prog ⟨w, [2, 3], Gs e undef⟩ (spZ (zOf oA)) := spL_ok fun p hp => by
    simp only [List.mem_cons, List.not_mem_nil, or_false] at hp
    rcases hp with rfl | rfl | rfl | rfl | rfl | rfl
    · exact spIx_ok ok rfl ord.no
    · exact spClo_ok
    · exact spApply_ok fun _ _ _ _ _ h => h.1.gw
    · exact spCl_ok rfl ok.l
    · exact spDel_ok rfl ok.l
    · exact spOn_ok ok rfl ord.no hO hn.symm ih
  cases hdn : anyT (doneQ e.d e.O) e.d.m with
  | false =>
    have hP : doneP e.d e.O = true := by unfold doneP; rw [hdn]; rfl
    have hres : e.res = some e.O := by
      show (if doneP e.d e.O = true then some e.O else firstS (tryP e.d (onP e.d e.f) e.mo e.O e.L) e.L.length) = _
      rw [if_pos hP]
    have j : J21 e bs oA (.slice (some ⟨b0, o0, none⟩) e.d.n c0) (.slice (some ⟨b1, o1, none⟩) e.d.m e.d.q) (.slice (some ⟨bL, 0, none⟩) e.L.length capL) (zOf oA) ((ρ.put 12 bm).I 9).toNat (ρ.put 12 bm) := by
      have h9 : (ρ.put 12 bm).I 9 = 0 := by rw [hρ]; rfl
      refine ⟨ord.of_le hle, by rw [h9]; rfl, by rw [h9]; exact Nat.zero_le _, hle.n _ _ (by rw [rN]; exact N2), hle.n _ _ (by rw [rN]; exact N3), AVal.den_mono hle _ d0, AVal.den_mono hle _ d1, AVal.den_mono hle _ dl, by rw [h9]; rfl⟩
    exact calls_sumsE (β := ⟨w, [2, 3], Gs e undef⟩) (g := gM) (L := [2, 3]) (Rs := rsOn) (Ts := tsOn) (pl := true) noCount noExt hsp follows Try.func21 rfl (o_done (zOf oA)) hx hr2 (CRel_app.2 ⟨hcsT, fdn false hdn⟩) (Go.Vm.one (endAs (b := true) j (by rw [hres]; rfl)))
  | true =>
    have hP : doneP e.d e.O = false := by unfold doneP; rw [hdn]; rfl
    refine calls_sumsE (β := ⟨w, [2, 3], Gs e undef⟩) (g := gM) (L := [2, 3]) (Rs := rsOn) (Ts := tsOn) (pl := true) noCount noExt hsp follows Try.func21 rfl (o_in (zOf oA)) hx hr2 (CRel_app.2 ⟨hcsT, fdn true hdn⟩) (Go.Vm.one (nextR (T := TOn (zOf oA)) (by cases zOf oA <;> rfl) (fun l hl => ?_) fun ρ' hle' hG' => ?_))
    · simp only [List.mem_cons, List.not_mem_nil, or_false] at hl
      rcases hl with rfl | rfl <;> cases zOf oA <;> rfl
    have hle2 := hle.trans hle'
    have h9 : ρ.I 9 = 0 := by rw [hρ]; rfl
    have j : J21 e bs oA (.slice (some ⟨b0, o0, none⟩) e.d.n c0) (.slice (some ⟨b1, o1, none⟩) e.d.m e.d.q) (.slice (some ⟨bL, 0, none⟩) e.L.length capL) (zOf oA) 0 ρ' := ⟨ord.of_le hle2, by rw [hle2.i]; exact h9, Nat.zero_le _, hle2.n _ _ (by rw [rN]; exact N2), hle2.n _ _ (by rw [rN]; exact N3), AVal.den_mono hle2 _ d0, AVal.den_mono hle2 _ d1, AVal.den_mono hle2 _ dl, rfl⟩
    have jn := stepO (it := .lit 0) j (t' := 0) rfl (Nat.zero_le _) rfl
    have hGn : (Gs e undef).at ((sOn (zOf oA) (.lit 0)).app ρ') := gsKeep (by cases zOf oA <;> rfl) rfl hG'
    exact ⟨hGn, jn.cs ok hGn, fun a w' r => onLoop ok hO hn.symm ih hP _ _ ⟨0, jn⟩ _ a w' (.inr rfl) r⟩
theorem on21 (d : Dt) : ∀ n, OnC d n := by
  intro n
  induction n with
  | zero =>
    intro w O L mo bs v0 v1 oA bm F b0 o0 c0 b1 o1 bL capL
    intro hn
    exact onStep (e := ⟨d, O, L, mo, 0⟩) (fun n h => by have : L.length = 0 := hn; have : n + 1 = L.length := h; omega) hn
  | succ n ih =>
    intro w O L mo bs v0 v1 oA bm F b0 o0 c0 b1 o1 bL capL
    intro hn
    exact onStep (e := ⟨d, O, L, mo, n + 1⟩) (fun n' h => by
      have h1 : L.length = n + 1 := hn
      have h2 : n' + 1 = L.length := h
      obtain rfl : n' = n := by omega
      exact ih) hn
end
end Ls
end Go.Proofs.Ytpgonpjakllnjaa
end
