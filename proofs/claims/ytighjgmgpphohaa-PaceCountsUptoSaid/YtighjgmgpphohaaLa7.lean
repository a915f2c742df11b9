/- The law (16): PaceCounts: what is known of the functions that it calls. -/
import Derived.Test.YtighjgmgpphohaaLa5
section
namespace Go.Proofs.Ytighjgmgpphohaa
open Go.Vm Go.Vm.Le Go.Vm.Mb
namespace La
open Ar (iV uV pT pT_den NewA SomeA fAlike)
open Gr (RowsW LenV tot prV great21 add_den getD0 keep_app2 und47 und22 inf22 inf49)
open Rf (refVals refP denL_cons)
theorem run6 : (run Try.prog [] (spL []) 40000 false 6 (entry Try.f6 (Try.f6.body.getD .ret) [] .leaf 0 [])).map (·.all (leafB (.lit true))) = some true := by kernel_rfl
theorem first6 (w : World) : Calls Try.prog 6 #[] w (fun e w' => e = .returned (.bool true) /\ Framed w w') :=
 calls_true (β := .plain w) (ρ := ⟨fun _ => 0, fun _ => false, fun _ => default, fun _ => undef, fun _ => none, fun _ _ _ => 0⟩) noExt (sp := spL []) (spL_ok fun _ hp => by cases hp) rfl Try.func6 rfl run6 (xs := []) rfl (HRel.start w _ fun _ => rfl) c0
variable {w : World}
theorem wordsIn_move {w w' : World} (h : ∀ y, y < w.heap.size -> w'.heap[y]? = w.heap[y]?) {r o n : Nat} {z : Int} (hw : WordsIn w r o n z) : WordsIn w' r o n z := by
 obtain ⟨c, fr, el, h1, h2⟩ := hw
 exact ⟨c, fr, el, by rw [h r (Array.getElem?_eq_some_iff.1 h1).1]; exact h1, h2⟩
def RowsW.move {sm : Bool} (R : RowsW sm w) {w' : World} (h : ∀ y, y < w.heap.size -> w'.heap[y]? = w.heap[y]?) : RowsW sm w' :=
 ⟨R.bo, R.oo, R.cap, R.Ws, R.zs, R.el, R.ad, fun h1 => by
  obtain ⟨a1, c, fr, e, a2, a3⟩ := R.at0 h1
  exact ⟨a1, c, fr, e, by rw [h _ (Array.getElem?_eq_some_iff.1 a2).1]; exact a2, a3⟩, fun i v hv => (R.row i v hv).imp id fun ⟨b, o, n, c, h1, h2, h3, h4⟩ => ⟨b, o, n, c, h1, h2, h3, fun h5 => wordsIn_move h (h4 h5)⟩⟩
theorem move_sum (R : RowsW false w) {w' : World} (h : ∀ y, y < w.heap.size -> w'.heap[y]? = w.heap[y]?) : ∀ i, (RowsW.move R h).sum i = R.sum i := fun i => by
 induction i with
 | zero => rfl
 | succ i ih => simp only [RowsW.sum, ih]; rfl
theorem el_le (R : RowsW false w) {i : Nat} (hi : i < R.Ws.length) : R.el (R.Ws.getD i (.slice none 0 0)) <= R.sum R.Ws.length := by
 have h1 := R.sum_le (show i + 1 <= R.Ws.length from hi)
 simp only [RowsW.sum] at h1
 omega
def RowsW.short (R : RowsW false w) (h : R.sum R.Ws.length <= 1000000) : RowsW true w :=
 ⟨R.bo, R.oo, R.cap, R.Ws, R.zs, R.el, R.ad, R.at0, fun i v hv => (R.row i v hv).imp id fun ⟨b, o, n, c, h1, h2, h3, h4⟩ => ⟨b, o, n, c, h1, h2, fun _ => by
  have hi : i < R.Ws.length := (List.getElem?_eq_some_iff.1 hv).1
  have h5 := el_le R hi
  have h6 : R.Ws.getD i (.slice none 0 0) = v := by rw [List.getD, hv]; rfl
  rw [h6, h2] at h5
  omega, h4⟩⟩
def G5 (R1 R2 : RowsW false w) (X Y : LenV) (m : Nat) : GP := fun I B S V F => Gr.GG R1 R2 X Y I B S V F /\ F 75 = fAlike /\ F 93 = fNb /\ F 95 = fEl /\ I 32 = (m : Int)
theorem G5_keep (R1 R2 : RowsW false w) (X Y : LenV) (m : Nat) : Ar.GKeep (G5 R1 R2 X Y m) := fun ρ ρ' hV hI hF h => by
 obtain ⟨h1, h2, h3, h4, h5⟩ := h
 exact ⟨Gr.GG_keep R1 R2 X Y ρ ρ' hV hI hF h1, by rw [hF]; exact h2, by rw [hF]; exact h3, by rw [hF]; exact h4, (hI _ (by decide)).trans h5⟩
section
variable (R1 R2 : RowsW false w) (X Y : LenV) (m : Nat)
theorem lenA_ok {ρ : Env} (hG : GP.at (G5 R1 R2 X Y m) ρ) {x : AVal} {n : IT} {v : Value} (h : lenA x n = true) (hx : x.den ρ = some v) : ∃ L : LenV, v = L.v /\ n.den ρ = some (L.n : Int) := by
 unfold lenA at h
 split at h
 · obtain rfl := IT.beq_eq h
   exact ⟨⟨none, 0, 0⟩, den_sliceNil hx, rfl⟩
 · obtain rfl := IT.beq_eq h
   obtain ⟨b, o, k, c, rfl, _, _, hn, _⟩ := den_slice hx
   exact ⟨⟨some ⟨b, o, none⟩, k, c⟩, rfl, hn⟩
 · obtain rfl := IT.beq_eq h
   refine ⟨X, ?_, congrArg some hG.1.2.1.2⟩
   have : ρ.V 64 = v := Option.some.inj hx
   rw [<- this]; exact hG.1.2.1.1
 · obtain rfl := IT.beq_eq h
   refine ⟨Y, ?_, congrArg some hG.1.2.2.2⟩
   have : ρ.V 66 = v := Option.some.inj hx
   rw [<- this]; exact hG.1.2.2.1
 · cases h
theorem spGrt_ok {xn yn : IT} {b : Bool} (hT : tot R1 R2 X Y < 4611686018427387904) (hb : decide (2000 < tot R1 R2 X Y) = b) (hx : ∀ ρ, GP.at (G5 R1 R2 X Y m) ρ -> xn.den ρ = some (X.n : Int)) (hy : ∀ ρ, GP.at (G5 R1 R2 X Y m) ρ -> yn.den ρ = some (Y.n : Int)) : SpGOk Try.prog ⟨w, noO, G5 R1 R2 X Y m⟩ 21 (spGrt xn yn b) := by
 intro args H nl cs ls ρ w' xs hr hxs hh hc
 unfold spGrt at hr
 split at hr
 rotate_left
 · cases hr
 rename_i r
 split at hr
 rotate_left
 · cases hr
 rename_i kk x y rw0 hg
 cases hl : (lenA x xn && lenA y yn) with
 | false => rw [hl] at hr; cases hr
 | true =>
  rw [hl] at hr; cases hr
  simp only [Bool.and_eq_true] at hl
  have hG : GP.at (G5 R1 R2 X Y m) ρ := hh.g
  obtain ⟨x1, r1, e1, h1, rfl⟩ := denL_cons hxs
  obtain ⟨x2, r2, e2, h2, rfl⟩ := denL_cons h1
  obtain ⟨x3, r3, e3, h3, rfl⟩ := denL_cons h2
  cases h3
  obtain rfl := den_sliceNil e3
  have e1 : ρ.V 60 = x1 := Option.some.inj e1
  have e1' : x1 = .slice R1.ad R1.Ws.length R1.cap := by rw [<- e1]; exact hG.1.1.1.1
  subst e1'
  obtain ⟨bp, o, n, c, rfl, hN, ho, hn, hcp⟩ := den_slice e2
  obtain rfl : o = 0 := (Int.ofNat.inj (Option.some.inj ho)).symm
  obtain rfl : n = 1 := (Int.ofNat.inj (Option.some.inj hn)).symm
  obtain rfl : c = 1 := (Int.ofNat.inj (Option.some.inj hcp)).symm
  obtain ⟨b', ob, hN', hob, ys, cc, fr, rfl, hys, hpre, htl, _⟩ := hh.blk _ _ hg
  rw [hN] at hN'; cases hN'
  obtain ⟨y1, s1, d1, g1, rfl⟩ := denL_cons hys
  obtain ⟨y2, s2, d2, g2, rfl⟩ := denL_cons g1
  obtain ⟨y3, s3, d3, g3, rfl⟩ := denL_cons g2
  obtain ⟨y4, s4, d4, g4, rfl⟩ := denL_cons g3
  cases g4
  obtain ⟨z, rfl, _⟩ := den_int d1
  obtain ⟨LX, rfl, nX⟩ := lenA_ok R1 R2 X Y m hG hl.1 d2
  obtain ⟨LY, rfl, nY⟩ := lenA_ok R1 R2 X Y m hG hl.2 d3
  have eX : LX.n = X.n := Int.ofNat.inj (Option.some.inj (nX.symm.trans (hx ρ hG)))
  have eY : LY.n = Y.n := Int.ofNat.inj (Option.some.inj (nY.symm.trans (hy ρ hG)))
  have d4 : ρ.V 70 = y4 := Option.some.inj d4
  have d4' : y4 = .slice R2.ad R2.Ws.length R2.cap := by rw [<- d4]; exact hG.1.1.2.1
  subst d4'
  have hfr : ∀ y, y < w.heap.size -> w'.heap[y]? = w.heap[y]? := fun y hy => hh.frame y hy id
  have hcl : cc.toList = prV z LX LY (RowsW.move R2 hfr) := by
   obtain ⟨t, ht⟩ := hpre
   have hsz : cc.toList.length = 4 := by rw [Array.length_toList]; exact htl
   rw [<- ht, List.length_append] at hsz
   have : t = [] := List.eq_nil_of_length_eq_zero (by simp only [List.length_cons, List.length_nil] at hsz; omega)
   rw [<- ht, this, List.append_nil]; rfl
  have htot : tot (RowsW.move R1 hfr) (RowsW.move R2 hfr) LX LY = tot R1 R2 X Y := by
   unfold Gr.tot
   rw [move_sum, move_sum, eX, eY]; rfl
  refine (great21 (RowsW.move R1 hfr) (RowsW.move R2 hfr) LX LY (by rw [htot]; exact hT) hob hcl).mono fun e w2 ⟨he, hf⟩ => ?_
  rw [htot, hb] at he
  exact ⟨_, he, _, _, _, _, ρ, List.mem_singleton.2 rfl, Env.Le.refl ρ, rfl, hh.framed hf, hc⟩
theorem refP_den {ρ : Env} {nl : Nat} {L : AVal} {v : Value} {g : Nat -> Int} (hN : ρ.N nl = some (encN ((List.range 19).map g ++ [0, 0]))) (h : L.den ρ = some v) : (AVal.agg (refP nl L)).den ρ = some (.agg (refVals g v).toArray) := by
 have h1 := Rf.ansR_den (nl := nl) hN h
 have h1 : Option.map (fun l => Value.tuple l.toArray) (AVal.denL ρ [.agg (refP nl L), .int .u64 (pT 19 nl), .int .i64 (pT 20 nl)]) = _ := h1
 obtain ⟨l, hl, hl2⟩ := Option.map_eq_some_iff.1 h1
 obtain ⟨x, r, e1, _, rfl⟩ := denL_cons hl
 rw [e1]
 simp only [Value.tuple.injEq] at hl2
 have h3 := congrArg (fun a : Array Value => a.toList.head?) hl2
 simp only [List.head?_cons] at h3
 exact h3
theorem spLd_ok (hn : R1.Ws.length <= 1000000) : SpGOk Try.prog ⟨w, noO, G5 R1 R2 X Y m⟩ 22 spLd := by
 intro args H nl cs ls ρ w' xs hr hxs hh hc
 unfold spLd at hr
 split at hr
 rotate_left
 · cases hr
 cases hr
 have hG : GP.at (G5 R1 R2 X Y m) ρ := hh.g
 obtain ⟨x1, r1, e1, h1, rfl⟩ := denL_cons hxs
 obtain ⟨x2, r2, e2, h2, rfl⟩ := denL_cons h1
 cases h2
 cases e1
 have e2 : ρ.V 60 = x2 := Option.some.inj e2
 have e2' : x2 = .slice R1.ad R1.Ws.length R1.cap := by rw [<- e2]; exact hG.1.1.1.1
 subst e2'
 have hfr : ∀ y, y < w.heap.size -> w'.heap[y]? = w.heap[y]? := fun y hy => hh.frame y hy id
 refine (laid22 (RowsW.move R1 hfr) hn).mono fun e w2 ⟨x, he, b, g, v, hx, hv, hf, F', ⟨A, most, hi, K, es, hA⟩, hF'⟩ => ?_
 subst hx
 obtain ⟨k, hk⟩ : ∃ k, k = encN ((List.range 19).map g ++ [0, 0]) := ⟨_, rfl⟩
 obtain ⟨n, hn⟩ : ∃ n, n = encN [encL A, encL (most :: ((hi : Nat) : Int) :: K), codeE es] := ⟨_, rfl⟩
 have q0 := hh.num k
 have l0 : ρ.Le (ρ.put nl k) := Env.le_put (hh.fresh nl (Nat.le_refl _))
 have q1 := q0.num n
 have l1 : (ρ.put nl k).Le ((ρ.put nl k).put (nl + 1) n) := Env.le_put (q0.fresh (nl + 1) (Nat.le_refl _))
 have hc1 : (IT.nv (nl + 1)).den ((ρ.put nl k).put (nl + 1) n) = some (encL [encL A, encL (most :: ((hi : Nat) : Int) :: K), codeE es]) := by rw [nvD (Env.put_same ..), hn]; rfl
 have q2 := q1.bigNew hf (c := .nv (nl + 1)) (fam2 hA) hF' hc1
 have l2 := Env.le_put (b := b) (q1.fresh (nl + 2) (Nat.le_refl _))
 have hle := (l0.trans l1).trans l2
 have hNk : (ρ.put nl k).N nl = some (encN ((List.range 19).map g ++ [0, 0])) := by rw [<- hk]; exact Env.put_same ..
 have hp : (AVal.ptr (nl + 2) (.lit 0)).den (((ρ.put nl k).put (nl + 1) n).put (nl + 2) b) = some (.pointer (some ⟨b, 0, none⟩)) := by simp only [AVal.den, Env.put_same]; rfl
 have tup : ∀ {ρ' : Env} {L : AVal}, (AVal.ptr (nl + 2) (.lit 0)).den ρ' = some (.pointer (some ⟨b, 0, none⟩)) -> (AVal.agg (refP nl L)).den ρ' = some (.agg (refVals g v).toArray) -> (AVal.tuple [.ptr (nl + 2) (.lit 0), .agg (refP nl L)]).den ρ' = some (.tuple #[.pointer (some ⟨b, 0, none⟩), .agg (refVals g v).toArray]) := fun {ρ' L} h1 h2 => by
  simp only [AVal.den, AVal.denL] at h1 h2 ⊢
  rw [h1, h2]
  rfl
 rcases hv with rfl | ⟨b3, n3, c3, rfl⟩
 · exact ⟨_, he, _, _, _, _, _, List.mem_cons_self, hle, tup hp (refP_den ((l1.trans l2).n _ _ hNk) rfl), q2, hc.mono hle⟩
 · have q3 := q2.num b3
   have q4 := q3.num n3
   have q5 := q4.num c3
   have l3 := Env.le_put (b := b3) (q2.fresh (nl + 3) (Nat.le_refl _))
   have l4 := Env.le_put (b := n3) (q3.fresh (nl + 4) (Nat.le_refl _))
   have l5 := Env.le_put (b := c3) (q4.fresh (nl + 5) (Nat.le_refl _))
   have hle3 := (l3.trans l4).trans l5
   have n3' := l5.n _ _ (l4.n _ _ (Env.put_same (((ρ.put nl k).put (nl + 1) n).put (nl + 2) b) (nl + 3) b3))
   have n4' := l5.n _ _ (Env.put_same ((((ρ.put nl k).put (nl + 1) n).put (nl + 2) b).put (nl + 3) b3) (nl + 4) n3)
   have n5' := Env.put_same (((((ρ.put nl k).put (nl + 1) n).put (nl + 2) b).put (nl + 3) b3).put (nl + 4) n3) (nl + 5) c3
   exact ⟨_, he, _, _, _, _, _, List.mem_cons_of_mem _ List.mem_cons_self, hle.trans hle3, tup (AVal.den_mono hle3 _ hp) (refP_den (hle3.n _ _ ((l1.trans l2).n _ _ hNk)) (den_slice_of n3' (litD ((0 : Nat) : Int)) (nvD n4') (nvD n5'))), q5, hc.mono (hle.trans hle3)⟩
theorem spNew_ok (hs : R2.sum R2.Ws.length <= 1000000) : SpGOk Try.prog ⟨w, noO, G5 R1 R2 X Y m⟩ 30 Lb.spNewL := by
 refine Lb.spNewL_ok fun I B S V F h => ?_
 have h0 : G5 R1 R2 X Y m I B S V F := h
 have hlen : R2.Ws.length <= 1000000 := Nat.le_trans (Gr.sum_ge R2 _) hs
 refine ⟨h0.2.2.1, R2.Ws.length, h0.1.1.2.2.2.2.1, hlen, fun w' ba hfr => ?_⟩
 have hfr' : ∀ y, y < w.heap.size -> w'.heap[y]? = w.heap[y]? := fun y hy => hfr y hy id
 rw [show V 70 = .slice R2.ad R2.Ws.length R2.cap from h0.1.1.2.1]
 exact Lb.newLays30 (RowsW.move (RowsW.short R2 hs) hfr') hlen ba
theorem sp5_ok {xn yn : IT} {b : Bool} (hT : tot R1 R2 X Y <= 1000000) (hb : decide (2000 < tot R1 R2 X Y) = b) (hx : ∀ ρ, GP.at (G5 R1 R2 X Y m) ρ -> xn.den ρ = some (X.n : Int)) (hy : ∀ ρ, GP.at (G5 R1 R2 X Y m) ρ -> yn.den ρ = some (Y.n : Int)) : CallOk Try.prog ⟨w, noO, G5 R1 R2 X Y m⟩ (sp5 xn yn b) := by
 have h0 : ∀ I B S V F, (Base.mk w noO (G5 R1 R2 X Y m)).G I B S V F -> G5 R1 R2 X Y m I B S V F := fun _ _ _ _ _ h => h
 have t1 : R1.sum R1.Ws.length <= 1000000 := by unfold Gr.tot at hT; omega
 have t2 : R2.sum R2.Ws.length <= 1000000 := by unfold Gr.tot at hT; omega
 refine spLH_ok (fun p hp => ?_) (orH_ok (hkInLen_ok und47 fun I B S V F h => ⟨(h0 I B S V F h).1.1.2.1, (h0 I B S V F h).1.1.2.2.2.2.1⟩) (orH_ok (hkInLen_ok Gr.und29 fun I B S V F h => (h0 I B S V F h).1.2.1) (orH_ok (hkInLen_ok und22 fun I B S V F h => (h0 I B S V F h).1.2.2) (orH_ok (hkStN_ok inf49 fun I B S V F h i hi => ?_) (hkSl_ok und22 fun I B S V F h => ⟨(h0 I B S V F h).2.2.1, (h0 I B S V F h).2.2.2.1⟩)))))
 · simp only [List.mem_cons, List.not_mem_nil, or_false] at hp
   rcases hp with rfl | rfl | rfl | rfl | rfl | rfl | rfl | rfl | rfl | rfl | rfl
   · exact spTrue_ok first6
   · exact spGrt_ok R1 R2 X Y m (by omega) hb hx hy
   · exact spLd_ok R1 R2 X Y m (Nat.le_trans (Gr.sum_ge R1 _) t1)
   · exact spNew_ok R1 R2 X Y m t2
   · exact Pc.sp40_ok
   · exact Lb.spZ_ok
   · exact Ar.spReadA_ok
   · exact Ar.spFreeA_ok
   · exact Lb.spLayB_ok fun I B S V F h => ⟨(h0 I B S V F h).2.2.1, (h0 I B S V F h).2.2.2.1⟩
   · exact Ar.spCloA_ok fun I B S V F h => (h0 I B S V F h).2.1
   · exact Ar.spSameA_ok fun I B S V F h => (h0 I B S V F h).2.1
 · have h1 := (h0 I B S V F h).1
   simp only [List.mem_cons, List.not_mem_nil, or_false] at hi
   rcases hi with rfl | rfl | rfl
   · rw [h1.2.1.1]; rfl
   · rw [h1.2.2.1]; rfl
   · rw [h1.1.2.1]; rfl
end
end La
end Go.Proofs.Ytighjgmgpphohaa
end
section
namespace Go.Proofs.Ytighjgmgpphohaa
open Go.Vm Go.Vm.Le Go.Vm.Mb
namespace La
open Ar (iV uV pT pT_den)
open Gr (RowsW LenV add_den getD0 keep_app2)
section
variable {P : Program} {β : Base} {f : FuncId} {R : Value -> World -> Prop}
theorem loop_goesH2 (hc : NoCount P) {E : Exts} (hE : ExtOk P E) {sp : CallF} (hsp : CallOk P β sp) (hm : P.follows .mixedOrders = true) {g : Gen} {L : List Nat} {b : Code} {k : List Item} {n : Nat} {ι : Type} (T : ι -> Tpl) (J : ι -> Env -> Prop) (μ : ι -> Env -> Nat)
 (hs : ∀ i ρ, J i ρ -> (∃ w, HRel β ρ (ofP (T i).H) (T i).nl w) -> CRel ρ (T i).cs -> GP.at β.G ρ -> (∀ i' ρ', μ i' ρ' < μ i ρ -> J i' ρ' -> ∀ todo a w, todo = .inLoop b :: k ∨ todo = .code (.loop b) :: k -> SRel β ρ' ((T i').st todo) a w -> Goes P f R todo a w) ->
  ∃ pl Rs Ts cs' sums, CRel ρ cs' /\ (run P E sp n pl f ((⟨(T i).tm, (T i).nt, (T i).H, (T i).nl, cs', (T i).dep⟩ : Tpl).st (.code b :: .inLoop b :: k))).map (·.filterMap (sumMO g L Rs Ts)) = some sums /\ ∀ s ∈ sums, MGoodO P β f R Rs Ts ρ s) :
 ∀ i ρ, J i ρ -> ∀ todo a w, todo = .inLoop b :: k ∨ todo = .code (.loop b) :: k -> SRel β ρ ((T i).st todo) a w -> Goes P f R todo a w := by
 suffices H : ∀ N i ρ, μ i ρ = N -> J i ρ -> ∀ todo a w, todo = .inLoop b :: k ∨ todo = .code (.loop b) :: k -> SRel β ρ ((T i).st todo) a w -> Goes P f R todo a w from fun i ρ => H _ i ρ rfl
 intro N
 induction N using Nat.strongRecOn with
 | _ N ih =>
  intro i ρ hN hJ todo a w htd r
  obtain ⟨pl, Rs, Ts, cs', sums, hcs', hrun, hss⟩ := hs i ρ hJ ⟨w, r.h⟩ r.c r.h.g fun i' ρ' hlt hJ' todo' a' w' ht' r' => ih (μ i' ρ') (by omega) i' ρ' rfl hJ' todo' a' w' ht' r'
  obtain ⟨ls, hls, hsum⟩ := Option.map_eq_some_iff.1 hrun
  have key : Goes P f R (.code b :: .inLoop b :: k) a w := run_sound hc hE hsp hm n pl f _ ls ρ a w _ hls ⟨r.d, r.n, r.t, r.h, hcs'⟩ (m_allO hsum hss)
  rcases htd with rfl | rfl
  · exact Goes.one (fun cs => step_inLoop) key
  · exact Goes.one (fun cs => step_loop) key
end
theorem crel_app {ρ : Env} {a b : Cs} (h1 : CRel ρ a) (h2 : CRel ρ b) : CRel ρ (a ++ b) := fun p hp => (List.mem_append.1 hp).elim (h1 p) (h2 p)
structure Mid (n i c : Nat) (ρ : Env) : Prop where
 hN : ρ.I 211 = (n : Int)
 hI : ρ.I 218 = (i : Int)
 hO : ρ.I 213 = (i : Int)
 hL : ρ.I 214 = ((n - i : Nat) : Int)
 hC : ρ.I 215 = ((c - i : Nat) : Int)
 le : n <= c
 i1 : 1 <= i
 lt : i < n
 n6 : n <= 1000000
theorem d13 {ρ : Env} {t : IT} {m : Nat} (h : t.den ρ = some (m : Int)) (h1 : m ≠ 1) : (IT.un 13 (.lit 1) t).den ρ = some ((1 : Nat) : Int) := by
 rw [unD (litD 1) h]
 show some (if (1 : Int) = (m : Int) then 0 else 1) = _
 rw [if_neg (by omega)]; rfl
theorem d14 {ρ : Env} {t : IT} {m : Nat} (h : t.den ρ = some (m : Int)) (h1 : 1 <= m) : (IT.un 14 t (.lit 1)).den ρ = some ((m - 1 : Nat) : Int) := by
 rw [unD h (litD 1)]
 show some (if (1 : Int) <= (m : Int) then (m : Int) - 1 else 0) = _
 rw [if_pos (by omega)]
 exact congrArg some (by omega)
theorem Mid.next {n i c : Nat} {ρ ρ' ρ2 : Env} (h : Mid n i c ρ) (hle : ρ.Le ρ') (hlt : 1 < n - i) (h1 : ρ2.I 211 = ((IT.var 211).den ρ').getD 0) (h2 : ρ2.I 218 = ((IT.bin .add .i64 (.var 218) (.lit 1)).den ρ').getD 0) (h3 : ρ2.I 213 = ((IT.elem (.var 213) 1 0 (.un 13 (.lit 1) (.var 215))).den ρ').getD 0)
 (h4 : ρ2.I 214 = ((IT.un 14 (.var 214) (.lit 1)).den ρ').getD 0) (h5 : ρ2.I 215 = ((IT.un 14 (.var 215) (.lit 1)).den ρ').getD 0) : Mid n (i + 1) c ρ2 := by
 obtain ⟨a1, a2, a3, a4, a5, a6, a7, a8, a9⟩ := h
 have e1 : (IT.var 211).den ρ' = some (n : Int) := by show some _ = _; rw [hle.i, a1]
 have e2 : (IT.var 218).den ρ' = some (i : Int) := by show some _ = _; rw [hle.i, a2]
 have e3 : (IT.var 213).den ρ' = some (i : Int) := by show some _ = _; rw [hle.i, a3]
 have e4 : (IT.var 214).den ρ' = some ((n - i : Nat) : Int) := by show some _ = _; rw [hle.i, a4]
 have e5 : (IT.var 215).den ρ' = some ((c - i : Nat) : Int) := by show some _ = _; rw [hle.i, a5]
 have b2 : (IT.bin .add .i64 (.var 218) (.lit 1)).den ρ' = some ((i + 1 : Nat) : Int) := add_den e2 (y := 1) rfl (by omega)
 have b3 : (IT.elem (.var 213) 1 0 (.un 13 (.lit 1) (.var 215))).den ρ' = some ((i + (1 * 1 + 0) : Nat) : Int) := elemD e3 (d13 e5 (by omega))
 exact ⟨by rw [h1, getD0 e1], by rw [h2, getD0 b2], by rw [h3, getD0 b3], by rw [h4, getD0 (d14 e4 (by omega))]; exact congrArg (fun k : Nat => (k : Int)) (by omega), by rw [h5, getD0 (d14 e5 (by omega))]; exact congrArg (fun k : Nat => (k : Int)) (by omega), a6, by omega, by omega, a9⟩
theorem Mid.first {n c : Nat} {ρ' ρ2 : Env} {nT cT : IT} (hn : nT.den ρ' = some (n : Int)) (hc : cT.den ρ' = some (c : Int)) (hle : n <= c) (hlt : 1 < n) (hn6 : n <= 1000000) (h1 : ρ2.I 211 = (n : Int)) (h2 : ρ2.I 218 = 1) (h3 : ρ2.I 213 = ((IT.un 13 (.lit 1) cT).den ρ').getD 0) (h4 : ρ2.I 214 = ((IT.un 14 nT (.lit 1)).den ρ').getD 0) (h5 : ρ2.I 215 = ((IT.un 14 cT (.lit 1)).den ρ').getD 0) : Mid n 1 c ρ2 := by
 exact ⟨h1, h2, by rw [h3, getD0 (d13 hc (by omega))], by rw [h4, getD0 (d14 hn (by omega))], by rw [h5, getD0 (d14 hc (by omega))], hle, by omega, hlt, hn6⟩
theorem f1_ok {ρ : Env} {n : Nat} {nT : IT} (h1 : ρ.I 211 = (n : Int)) (hn : nT.den ρ = some (n : Int)) (hn1 : 1 <= n) {b : Bool} (hb : decide (1 < n) = b) : CRel ρ (f1 nT b) := by
 have e1 : (IT.var 211).den ρ = some (n : Int) := by show some _ = _; rw [h1]
 refine c1 (lssT (litD 0) e1 (by omega)) (c1 (lssT (litD 0) hn (by omega)) (c1 (geqT (litD 0) (litD 0) (by omega)) (c1 (leqT (litD 1) hn (by omega)) (c1 (geqT (litD 1) (litD 0) (by omega)) (c1 ?_ (CRel_nil.2 trivial))))))
 rw [cmpD (d14 hn (by omega)) (litD 0)]
 simp only [intCmp, Option.some.injEq]
 rw [<- hb, decide_eq_decide]
 omega
theorem ix_den {n i c : Nat} {ρ : Env} (h : Mid n i c ρ) : ix.den ρ = some (i : Int) := by
 have e3 : (IT.var 213).den ρ = some (i : Int) := by show some _ = _; rw [h.hO]
 have := elemD (sz := 1) (j := 0) e3 (litD (ρ := ρ) ((0 : Nat) : Int))
 refine Eq.trans this ?_
 simp
theorem f2F_ok {ρ : Env} {n i c : Nat} {nT : IT} (h : Mid n i c ρ) (hn : nT.den ρ = some (n : Int)) {b : Bool} (hb : decide (1 < n - i) = b) : CRel ρ (f2F nT b) := by
 have e1 : (IT.var 211).den ρ = some (n : Int) := by show some _ = _; rw [h.hN]
 have e2 : (IT.var 218).den ρ = some (i : Int) := by show some _ = _; rw [h.hI]
 have e4 : (IT.var 214).den ρ = some ((n - i : Nat) : Int) := by show some _ = _; rw [h.hL]
 have := h.lt
 refine c1 (lssT (litD 0) e4 (by omega)) (c1 (geqT (litD 0) (litD 0) (by omega)) (c1 (lssT (ix_den h) hn (by omega)) (c1 (geqT (ix_den h) (litD 0) (by omega)) (c1 (leqT (litD 1) e4 (by omega)) (c1 (geqT (litD 1) (litD 0) (by omega)) (c1 ?_ (c1 (lssT e2 e1 (by omega)) (CRel_nil.2 trivial))))))))
 rw [cmpD (d14 e4 (by omega)) (litD 0)]
 simp only [intCmp, Option.some.injEq]
 rw [<- hb, decide_eq_decide]
 omega
theorem fL_ok {ρ : Env} {n i : Nat} (h1 : ρ.I 211 = (n : Int)) (h2 : ρ.I 218 = (i : Int)) {b : Bool} (hb : decide (i < n) = b) : CRel ρ (fL b) := by
 have e1 : (IT.var 211).den ρ = some (n : Int) := by show some _ = _; rw [h1]
 have e2 : (IT.var 218).den ρ = some (i : Int) := by show some _ = _; rw [h2]
 refine c1 ?_ (CRel_nil.2 trivial)
 rw [cmpD e2 e1]
 simp only [intCmp, Option.some.injEq]
 rw [<- hb, decide_eq_decide]
 omega
def R5 (w : World) : Value -> World -> Prop := fun x w' => x = .bool true /\ Framed w w'
variable {w : World}
theorem end_5 {ρ : Env} {x : Value} {w' : World} {G : GP} (r : SRel ⟨w, noO, G⟩ ρ ((⟨[(0, .bool (.lit true))], 1, [], 30, [], 0⟩ : Tpl).st []) ⟨#[x], []⟩ w') : R5 w x w' := by
 obtain ⟨y, hy, he⟩ := r.t 0 (.bool (.lit true)) rfl
 obtain rfl : x = y := Option.some.inj he
 exact ⟨(Option.some.inj hy).symm, Framed.of r.h⟩
theorem done_5 {R1 R2 : RowsW false w} {X Y : LenV} {m : Nat} {Ts : List Tpl} {ρ : Env} {cs : Cs} {σ : Go.Vm.Sub} (hk : Gr.keepsI σ = true) : MGoodO Try.prog ⟨w, noO, G5 R1 R2 X Y m⟩ 5 (R5 w) e5 Ts ρ (.done 0 cs σ) := by
 refine ⟨trivial, fun ρ' hle hc T hT hG' => ?_⟩
 have hT : (⟨[(0, .bool (.lit true))], 1, [], 30, [], 0⟩ : Tpl) = T := Option.some.inj hT
 subst hT
 exact ⟨keep_app2 (G5_keep R1 R2 X Y m) hk hG', CRel_nil.2 trivial, fun x w' r => end_5 r⟩
inductive Hd | a | b | n | z | d
def TR : Hd -> Tpl
 | .a => tR1 | .b => tR2 | .n => tRn | .z => tRz | .d => tRD
def TF : Hd -> Tpl
 | .a => tF1 | .b => tF2 | .n => tFn | .z => tFz | .d => tFD
def JR (n : Nat) : Hd -> Env -> Prop
 | .a, ρ => ρ.I 211 = (n : Int) /\ 1 <= n
 | .b, ρ => ∃ i c, Mid n i c ρ /\ ρ.I 216 = (i : Int)
 | _, ρ => ρ.I 211 = (n : Int) /\ ρ.I 218 = (n : Int)
def JF (n : Nat) : Hd -> Env -> Prop
 | .a, ρ => ρ.I 211 = (n : Int) /\ 1 <= n
 | .b, ρ => ∃ i c, Mid n i c ρ
 | _, ρ => ρ.I 211 = (n : Int) /\ ρ.I 218 = (n : Int)
def mu (n : Nat) : Hd -> Env -> Nat
 | .a, _ => n + 2
 | .b, ρ => n + 1 - (ρ.I 218).toNat
 | _, _ => 0
section
variable (R1 R2 : RowsW false w) (X Y : LenV) (m : Nat) (hsp : CallOk Try.prog ⟨w, noO, G5 R1 R2 X Y m⟩ sp5')
include hsp
theorem loop_R {n : Nat} (hn : n <= 1000000) : ∀ k ρ, JR n k ρ -> ∀ todo a w', todo = .inLoop cb0 :: ck0 ∨ todo = .code (.loop cb0) :: ck0 -> SRel ⟨w, noO, G5 R1 R2 X Y m⟩ ρ ((TR k).st todo) a w' -> Goes Try.prog 5 (R5 w) todo a w' := by
 refine loop_goesH2 (β := ⟨w, noO, G5 R1 R2 X Y m⟩) (g := g5) (L := []) (n := 4000) noCount noExt hsp follows TR (JR n) (mu n) (fun k ρ hJ hH hcs hG ih => ?_)
 cases k with
 | a =>
  obtain ⟨h1, hn1⟩ := hJ
  have e1 : ∀ {ρ'}, ρ.Le ρ' -> (IT.var 211).den ρ' = some (n : Int) := fun hle => by show some _ = _; rw [hle.i, h1]
  obtain ⟨w1, hh⟩ := hH
  obtain ⟨m', c, hm', hc, hmc⟩ := hh.room (l := 12) (t := .code [.u64, .i64] (.var 219)) (ks := [.u64, .i64]) (e := 35) (an := .var 211) (off := .lit 0) (cp := .nv 1) (rw := true) rfl (by simp)
  obtain rfl : m' = n := Int.ofNat.inj (Option.some.inj (hm'.symm.trans (e1 (Env.Le.refl ρ))))
  by_cases hb : 1 < m'
  · refine ⟨true, e5, tsR, _, s_R1t, f1_ok h1 (e1 (Env.Le.refl ρ)) hn1 (decide_eq_true hb), r_R1t, fun s hs => ?_⟩
    simp only [s_R1t, List.mem_cons, List.not_mem_nil, or_false] at hs
    subst hs
    refine ⟨trivial, fun ρ' hle hc' T hT hG' => ?_⟩
    obtain rfl : tR2 = T := Option.some.inj hT
    have hMid : ∀ ρ2 : Env, ρ2.I 211 = ρ'.I 211 -> ρ2.I 218 = 1 -> _ -> _ -> _ -> Mid m' 1 c ρ2 := fun ρ2 q1 q2 q3 q4 q5 => Mid.first (e1 hle) (IT.den_mono hle hc) hmc hb hn (by rw [q1, hle.i, h1]) q2 q3 q4 q5
    refine ⟨keep_app2 (G5_keep R1 R2 X Y m) rfl hG', CRel_nil.2 trivial, fun a w' r => ih .b _ ?_ ?_ _ a w' (.inl rfl) r⟩
    · show m' + 1 - (1 : Int).toNat < m' + 2
      omega
    · exact ⟨1, c, hMid _ rfl rfl rfl rfl rfl, rfl⟩
  · refine ⟨true, e5, tsR, _, s_R1f, f1_ok h1 (e1 (Env.Le.refl ρ)) hn1 (decide_eq_false hb), r_R1f, fun s hs => ?_⟩
    simp only [s_R1f, List.mem_cons, List.not_mem_nil, or_false] at hs
    subst hs
    refine ⟨trivial, fun ρ' hle hc' T hT hG' => ?_⟩
    obtain rfl : tRD = T := Option.some.inj hT
    obtain rfl : m' = 1 := by omega
    have hJ' : ∀ ρ2 : Env, ρ2.I 211 = ρ'.I 211 -> ρ2.I 218 = 1 -> JR 1 .d ρ2 := fun ρ2 q1 q2 => ⟨by rw [q1, hle.i, h1], q2⟩
    refine ⟨keep_app2 (G5_keep R1 R2 X Y m) rfl hG', CRel_nil.2 trivial, fun a w' r => ih .d _ ?_ ?_ _ a w' (.inl rfl) r⟩
    · show 0 < 1 + 2
      omega
    · exact (hJ' _ rfl rfl)
 | b =>
  obtain ⟨i, c, hM, h216⟩ := hJ
  have e1 : ∀ {ρ'}, ρ.Le ρ' -> (IT.var 211).den ρ' = some (n : Int) := fun hle => by show some _ = _; rw [hle.i, hM.hN]
  have e2 : ∀ {ρ'}, ρ.Le ρ' -> (IT.bin .add .i64 (.var 218) (.lit 1)).den ρ' = some ((i + 1 : Nat) : Int) := fun hle => add_den (show _ = some (i : Int) by show some _ = _; rw [hle.i, hM.hI]) (y := 1) rfl (by have := hM.lt; omega)
  have e6 : ∀ {ρ'}, ρ.Le ρ' -> (IT.bin .add .i64 (.var 216) (.lit 1)).den ρ' = some ((i + 1 : Nat) : Int) := fun hle => add_den (show _ = some (i : Int) by show some _ = _; rw [hle.i, h216]) (y := 1) rfl (by have := hM.lt; omega)
  have d216 : (IT.var 216).den ρ = some (i : Int) := by show some _ = _; rw [h216]
  have l1 := hM.lt
  have l2 := hM.i1
  have hW : CRel ρ fW := c1 (leqT d216 (litD 1000000) (by omega)) (c1 (geqT d216 (litD 1) (by omega)) (CRel_nil.2 trivial))
  by_cases hb : 1 < n - i
  · refine ⟨true, e5, tsR, _, s_R2t, crel_app hW (f2F_ok hM (e1 (Env.Le.refl ρ)) (decide_eq_true hb)), r_R2t, fun s hs => ?_⟩
    simp only [s_R2t, List.mem_cons, List.not_mem_nil, or_false] at hs
    subst hs
    refine ⟨trivial, fun ρ' hle hc' T hT hG' => ?_⟩
    obtain rfl : tR2 = T := Option.some.inj hT
    have hMid : ∀ ρ2 : Env, _ -> _ -> _ -> _ -> _ -> Mid n (i + 1) c ρ2 := fun ρ2 q1 q2 q3 q4 q5 => Mid.next (ρ2 := ρ2) hM hle hb q1 q2 q3 q4 q5
    refine ⟨keep_app2 (G5_keep R1 R2 X Y m) rfl hG', CRel_nil.2 trivial, fun a w' r => ih .b _ ?_ ?_ _ a w' (.inl rfl) r⟩
    · show n + 1 - (((IT.bin .add .i64 (.var 218) (.lit 1)).den ρ').getD 0).toNat < n + 1 - (ρ.I 218).toNat
      rw [getD0 (e2 hle), hM.hI]; omega
    · exact ⟨i + 1, c, hMid _ rfl rfl rfl rfl rfl, getD0 (e6 hle)⟩
  · refine ⟨true, e5, tsR, _, s_R2f, crel_app hW (f2F_ok hM (e1 (Env.Le.refl ρ)) (decide_eq_false hb)), r_R2f, fun s hs => ?_⟩
    simp only [s_R2f, List.mem_cons, List.not_mem_nil, or_false] at hs
    subst hs
    refine ⟨trivial, fun ρ' hle hc' T hT hG' => ?_⟩
    obtain rfl : tRD = T := Option.some.inj hT
    have hJ' : ∀ ρ2 : Env, ρ2.I 211 = ρ'.I 211 -> ρ2.I 218 = ((i + 1 : Nat) : Int) -> JR n .d ρ2 := fun ρ2 q1 q2 => ⟨by rw [q1, hle.i, hM.hN], by rw [q2]; exact congrArg (fun k : Nat => (k : Int)) (by omega)⟩
    refine ⟨keep_app2 (G5_keep R1 R2 X Y m) rfl hG', CRel_nil.2 trivial, fun a w' r => ih .d _ ?_ ?_ _ a w' (.inl rfl) r⟩
    · show 0 < n + 1 - (ρ.I 218).toNat
      rw [hM.hI]; omega
    · exact (hJ' _ rfl (getD0 (e2 hle)))
 | n =>
  obtain ⟨h1, h2⟩ := hJ
  refine ⟨true, e5, tsR, _, s_dRn, fL_ok h1 h2 (decide_eq_false (Nat.lt_irrefl _)), r_dRn, fun s hs => ?_⟩
  simp only [s_dRn, List.mem_cons, List.not_mem_nil, or_false] at hs
  subst hs
  exact done_5 rfl
 | z =>
  obtain ⟨h1, h2⟩ := hJ
  refine ⟨true, e5, tsR, _, s_dRz, fL_ok h1 h2 (decide_eq_false (Nat.lt_irrefl _)), r_dRz, fun s hs => ?_⟩
  simp only [s_dRz, List.mem_cons, List.not_mem_nil, or_false] at hs
  subst hs
  exact done_5 rfl
 | d =>
  obtain ⟨h1, h2⟩ := hJ
  refine ⟨true, e5, tsR, _, s_dRD, fL_ok h1 h2 (decide_eq_false (Nat.lt_irrefl _)), r_dRD, fun s hs => ?_⟩
  simp only [s_dRD, List.mem_cons, List.not_mem_nil, or_false] at hs
  subst hs
  exact done_5 rfl
end
end La
end Go.Proofs.Ytighjgmgpphohaa
end
