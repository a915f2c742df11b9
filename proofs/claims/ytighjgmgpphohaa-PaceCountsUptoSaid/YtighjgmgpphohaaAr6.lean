/- Arenas (3): what Lay makes of an arena. -/
import Derived.Test.YtighjgmgpphohaaAr2
section
namespace Go.Proofs.Ytighjgmgpphohaa
open Go.Vm Go.Vm.Le Go.Vm.Mb
namespace Ar
theorem und75 : Try.prog.underlying 75 = some (.map 3 95) := by kernel_rfl
theorem und3 : Try.prog.underlying 3 = some (.int .i64) := by kernel_rfl
theorem und22' : Try.prog.underlying 22 = some (.slice 32) := by kernel_rfl
theorem zer95 : zeroA Try.prog 95 = some (.agg [.int .u64 (.lit 0), .sliceNil]) := by kernel_rfl
def WordsAt (w : World) (r o n : Nat) (z : Int) : Prop := ∃ c fr el, w.heap[r]? = some (.cells c el fr) /\ o <= c.size /\ rowOf [.u64] (decL z) <+: c.toList.drop o /\ Typed [.u64] n (rowOf [.u64] (decL z))
def Words (w : World) (F : Nat -> Prop) (v : Value) : Prop := (∃ a c, v = .slice a 0 c /\ (∀ p, a = some p -> p.spot = none ∨ c = 0) /\ (a = none -> c = 0)) ∨ ∃ r o n c z, v = .slice (some ⟨r, o, none⟩) n c /\ 1 <= n /\ ¬ F r /\ WordsAt w r o n z
def rowH : HB := ⟨.arr (.code [.u64] (.var 222)) [.u64] 32 (.var 223) (.var 224) none, false⟩
def hW : Kd -> Heap
 | .row => (ofP hA).set 3 rowH
 | _ => ofP hA
theorem hkA_ok {β : Base} (hG : ∀ I B S V F, β.G I B S V F -> GMb I B S V F) : HookOk Try.prog β hkA := orH_ok (hkPut_ok und75 und3 hG) (hkDel_ok und75 und3 hG)
theorem spLay_ok (w : World) (F : Nat -> Prop) : CallOk Try.prog ⟨w, F, GAr⟩ spLay := by
 refine spLH_ok (fun p hp => ?_) (orH_ok (hkXLen_ok und22') (hkA_ok fun _ _ _ _ _ h => h.2))
 simp only [List.mem_cons, List.not_mem_nil, or_false] at hp
 rcases hp with rfl | rfl
 · exact Lp.spTake_ok fun _ _ _ _ _ h => h.1
 · exact Pc.sp43_ok
def QLay (x : Value) : Prop := ∃ z0 z1, x = .tuple #[.int .u64 z0, .int .i64 z1]
theorem uLay_den {ρ : Env} {x : Value} (h : uLay.den ρ = some x) : QLay x := ⟨ρ.I 230, ρ.I 231, by
 simp only [uLay, uV, iV, AVal.den, AVal.denL, IT.den, Option.map_some] at h
 exact (Option.some.inj h).symm⟩
noncomputable def RunL (k : Kd) : Prop := ((run Try.prog [] spLay 4000 true 46 (entry Try.f46 (Try.f46.body.getD .ret) [me, wA k] (hW k) 5 (wC k))).map fun ls => (ls.filterMap (sumMD gA [0, 1, 2] (eA uLay) [])).all okA) = some true
theorem lay_nil : RunL .nil := by unfold RunL; kernel_rfl
theorem lay_zero : RunL .zero := by unfold RunL; kernel_rfl
theorem lay_row : RunL .row := by unfold RunL; kernel_rfl
theorem me_den {ρ : Env} {b : Nat} (h : ρ.N 0 = some b) : me.den ρ = some (.pointer (some ⟨b, 0, none⟩)) := by simp only [me, AVal.den, h]; rfl
theorem lay46 {A : List Int} {most : Int} {hi : Nat} {K : List Int} {es : Es} {w : World} {b : Nat} {F : Nat -> Prop} (s : ArenaIn A most hi K es w b F) {v : Value} (hv : Words w F v) :
 Calls Try.prog 46 #[.pointer (some ⟨b, 0, none⟩), v] w (fun e w' => ∃ x, e = .returned x /\ RA w b F QLay x w') := by
 have start := fun z0 z1 z2 => start_A s z0 z1 z2
 rcases hv with ⟨a, c, rfl, ha, hac⟩ | ⟨r, o, n, c, z, rfl, hn, hF, cc, fr, el, hr, ho, hp, ht⟩
 · obtain ⟨bs, bm, hh⟩ := start 0 0 (match a with | some p => p.off | none => 0)
   cases a with
   | none =>
    obtain rfl := hac rfl
    have h5 := (hh.num 0).num 0
    exact call_A noExt (spLay_ok w F) Try.func46 rfl lay_nil (xs := [.pointer (some ⟨b, 0, none⟩), .slice none 0 0]) (by simp only [AVal.denL, wA, me_den (show (((envA A (encL (most :: (hi : Int) :: K)) (codeE es) 0 0 0 b bs bm).put 3 0).put 4 0).N 0 = some b from rfl)]; rfl) h5 (CRel_nil.2 trivial) rfl fun ρ x h => uLay_den h
   | some p =>
    obtain ⟨k, hk⟩ := slX_code (ha p rfl)
    rw [hk]
    obtain ⟨pb, po, ps⟩ := p
    have h5 := (hh.num pb).num k
    exact call_A noExt (spLay_ok w F) Try.func46 rfl lay_zero (xs := [.pointer (some ⟨b, 0, none⟩), slX pb po 0 k]) (by simp only [AVal.denL, wA, me_den (show (((envA A (encL (most :: (hi : Int) :: K)) (codeE es) 0 0 (po : Int) b bs bm).put 3 pb).put 4 k).N 0 = some b from rfl)]; rfl) h5 (CRel_nil.2 trivial) rfl fun ρ x h => uLay_den h
 · obtain ⟨bs, bm, hh⟩ := start z n o
   have hrl : r < w.heap.size := (Array.getElem?_eq_some_iff.1 hr).1
   have h4 := hh.seen (k := rowH.k) hrl hF hr ⟨_, cc, fr, el, n, o, rfl, (fun e => by cases e), rfl, rfl, ⟨ho, hp⟩, rfl, ht, trivial, (fun e => by cases e)⟩ rfl rfl
   have h5 := h4.num c
   refine call_A noExt (spLay_ok w F) Try.func46 rfl lay_row (xs := [.pointer (some ⟨b, 0, none⟩), .slice (some ⟨r, o, none⟩) n c]) (by simp only [AVal.denL, wA, me_den (show (((envA A (encL (most :: (hi : Int) :: K)) (codeE es) z (n : Int) (o : Int) b bs bm).put 3 r).put 4 c).N 0 = some b from rfl)]; rfl) h5 (c1 (geqT (x := (n : Int)) (varD rfl) (litD 1) (by omega)) (CRel_nil.2 trivial)) rfl fun ρ x h => uLay_den h
end Ar
end Go.Proofs.Ytighjgmgpphohaa
end
section
namespace Go.Proofs.Ytighjgmgpphohaa
open Go.Vm Go.Vm.Le Go.Vm.Mb
namespace Ar
def eR (us : List AVal) : List Tpl := us.map fun u => ⟨[(0, u)], 1, [], 20, [], 0⟩
def okR : LM -> Bool
 | .done _ [] σ => σ.V.isEmpty && σ.I.all fun p => Nat.ble 200 p.1
 | _ => false
def GKeep (G : GP) : Prop := ∀ ρ ρ' : Env, (∀ v, ρ'.V v = ρ.V v) -> (∀ i, i < 200 -> ρ'.I i = ρ.I i) -> ρ'.F = ρ.F -> GP.at G ρ -> GP.at G ρ'
theorem lk_ge {α : Type} : ∀ {l : List (Nat × α)} {i : Nat}, (l.all fun p => Nat.ble 200 p.1) = true -> i < 200 -> lk l i = none
 | [], _, _, _ => rfl
 | (j, x) :: r, i, h, hi => by
  simp only [List.all_cons, Bool.and_eq_true] at h
  have h1 := Nat.le_of_ble_eq_true h.1
  have : Nat.beq j i = false := by
   cases hb : Nat.beq j i with
   | false => rfl
   | true => have := Nat.eq_of_beq_eq_true hb; omega
  simp only [lk, this, cond_false]
  exact lk_ge h.2 hi
theorem keep_app {G : GP} (hk : GKeep G) {σ : Go.Vm.Sub} {ρ : Env} (hV : σ.V.isEmpty = true) (hI : (σ.I.all fun p => Nat.ble 200 p.1) = true) (h : GP.at G ρ) : GP.at G (σ.app ρ) := by
 refine hk ρ _ (fun v => ?_) (fun i hi => ?_) rfl h
 · have : σ.V = [] := List.isEmpty_iff.1 hV
   simp only [Go.Vm.Sub.app, this]; rfl
 · simp only [Go.Vm.Sub.app, lk_ge hI hi]
theorem len22 {l : List Value} (h : l.length = 22) : ∃ v0 v1 v2 v3 v4 v5 v6 v7 v8 v9 v10 v11 v12 v13 v14 v15 v16 v17 v18 v19 v20 v21, l = [v0, v1, v2, v3, v4, v5, v6, v7, v8, v9, v10, v11, v12, v13, v14, v15, v16, v17, v18, v19, v20, v21] := by
 match l, h with
 | [v0, v1, v2, v3, v4, v5, v6, v7, v8, v9, v10, v11, v12, v13, v14, v15, v16, v17, v18, v19, v20, v21], _ => exact ⟨v0, v1, v2, v3, v4, v5, v6, v7, v8, v9, v10, v11, v12, v13, v14, v15, v16, v17, v18, v19, v20, v21, rfl⟩
def roC : ABlk := .cells [.var 0, .var 1, .var 2, .var 3, .var 4, .var 5, .var 6, .var 7, .var 8, .var 9, .var 10, .var 11, .var 12, .var 13, .var 14, .var 50, .var 16, .var 17, .var 18, .var 19, .var 20, .var 21] 77 none
def Gf (bm : Nat) (es : Es) : GP := fun I B S V F => GMb I B S V F /\ V 50 = .map (some bm) /\ I 90 = codeE es
def envR (l : List Value) (bm : Nat) (es : Es) (b : Nat) (z : Int) (z1 : Int) : Env :=
 ⟨fun i => if i = 90 then codeE es else if i = 91 then z else z1, fun _ => false, fun _ => default, fun i => if i = 50 then .map (some bm) else l.getD i undef, fun i => if i = 0 then some b else none, FA⟩
structure BlkAt (w : World) (b bm : Nat) (es : Es) (F2 : Nat -> Prop) : Prop where
 ex : ∃ c fr, w.heap[b]? = some (.cells c 77 fr) /\ c.toList.length = 22 /\ c.toList[15]? = some (.map (some bm))
 bl : BlksIn es w bm F2
theorem Gf_keep (bm : Nat) (es : Es) : GKeep (Gf bm es) := fun ρ ρ' hV hI hF h => by
 refine ⟨?_, (hV 50).trans h.2.1, (hI 90 (by decide)).trans h.2.2⟩
 have h1 := h.1
 unfold GMb at h1 ⊢
 rw [hF]; exact h1
theorem start_R {w : World} {b bm : Nat} {es : Es} {F2 : Nat -> Prop} (s : BlkAt w b bm es F2) (z z1 : Int) : ∃ l, HRel ⟨w, noO, Gf bm es⟩ (envR l bm es b z z1) (ofP [(0, (⟨roC, false⟩ : HB))]) 1 w := by
 obtain ⟨⟨c, fr, hb, hl, h15⟩, h2⟩ := s
 refine ⟨c.toList, HRel.ro [(0, roC)] (fun p hp => ?_) (fun i hi => ?_) ⟨⟨rfl, rfl, rfl, rfl, rfl, rfl⟩, rfl, rfl⟩⟩
 · rw [List.mem_singleton.1 hp]
   refine ⟨b, _, rfl, hb, c.toList, c, fr, rfl, ?_, List.prefix_refl _, by rw [<- Array.length_toList]; exact hl, fun e => by cases e⟩
   obtain ⟨v0, v1, v2, v3, v4, v5, v6, v7, v8, v9, v10, v11, v12, v13, v14, v15, v16, v17, v18, v19, v20, v21, he⟩ := len22 hl
   rw [he] at h15 ⊢
   have h15 := Option.some.inj h15
   subst h15
   rfl
 · show (if i = 0 then some b else none) = none
   rw [if_neg (by omega)]
theorem fz_R {w : World} {b bm : Nat} {es : Es} {F2 : Nat -> Prop} (s : BlkAt w b bm es F2) : Fz ⟨w, noO, Gf bm es⟩ 50 90 := by
 refine ⟨bm, es, es, F2, s.bl, List.Perm.refl _, fun _ _ => id, fun I B S V F' h => ?_⟩
 have h2 : Gf bm es I B S V F' := h
 exact h2.2
theorem call_R {f : FuncId} {fn : Func} {c : Code} {E : Exts} {sp : CallF} {pl : PL} {n : Nat} {args : List AVal} {xs : List Value} {H : Heap} {cs : Cs} {us : List AVal} {w : World} {ρ : Env} {nl : Nat} {G : GP}
 (hE : ExtOk Try.prog E) (hsp : CallOk Try.prog ⟨w, noO, G⟩ sp) (hf : Try.prog.funcs[f]? = some fn) (hb : fn.body = some c)
 (hrun : ((run Try.prog E sp n pl f (entry fn c args H nl cs)).map fun ls => (ls.filterMap (sumMD gA [] (eR us) [])).all okR) = some true)
 (hx : AVal.denL ρ args = some xs) (hr : HRel ⟨w, noO, G⟩ ρ H nl w) (hcs : CRel ρ cs) (hG : GKeep G) :
 Calls Try.prog f xs.toArray w (fun e w' => ∃ v, e = .returned v /\ Framed w w' /\ ∃ u ∈ us, ∃ ρ, u.den ρ = some v) := by
 obtain ⟨ls, hls, hall⟩ := Option.map_eq_some_iff.1 hrun
 refine calls_sumsE (β := ⟨w, noO, G⟩) (R := fun v w' => Framed w w' /\ ∃ u ∈ us, ∃ ρ, u.den ρ = some v) (g := gA) (L := []) (Rs := eR us) (Ts := []) (pl := pl) noCount hE hsp follows hf hb (by rw [hls]; rfl) hx hr hcs fun s hs => ?_
 have hk := List.all_eq_true.1 hall s hs
 unfold okR at hk
 split at hk
 · rename_i q σ
   simp only [Bool.and_eq_true] at hk
   refine ⟨trivial, fun ρ' hle _ T hT hG' => ?_⟩
   simp only [eR, List.getElem?_map] at hT
   obtain ⟨u, hu, rfl⟩ := Option.map_eq_some_iff.1 hT
   refine ⟨keep_app hG hk.1 hk.2 hG', CRel_nil.2 trivial, fun x w' r => ⟨Framed.of r.h, u, List.mem_of_getElem? hu, σ.app ρ', ?_⟩⟩
   obtain ⟨y, hy, he⟩ := r.t 0 u rfl
   obtain rfl : x = y := Option.some.inj he
   exact hy
 · cases hk
def uF0 : AVal := .tuple [.sliceNil, .bool (.lit false)]
def uF1 : AVal := .tuple [.slice 12 (.lit 0) (.var 230) (.nv 13), .bool (.lit true)]
def spFd : CallF := spLH [] (hkFind 75 50 90)
theorem run_find : ((run Try.prog [] spFd 4000 true 55 (entry Try.f55 (Try.f55.body.getD .ret) [me, .int .u64 (.var 91)] (ofP [(0, (⟨roC, false⟩ : HB))]) 1 [])).map fun ls => (ls.filterMap (sumMD gA [] (eR [uF0, uF1]) [])).all okR) = some true := by kernel_rfl
def FindR (x : Value) : Prop := x = .tuple #[.slice none 0 0, .bool false] ∨ ∃ y n c, x = .tuple #[.slice (some ⟨y, 0, none⟩) n c, .bool true]
theorem find55 {w : World} {b bm : Nat} {es : Es} {F2 : Nat -> Prop} (s : BlkAt w b bm es F2) (z : Int) : Calls Try.prog 55 #[.pointer (some ⟨b, 0, none⟩), .int .u64 z] w (fun e w' => ∃ v, e = .returned v /\ Framed w w' /\ FindR v) := by
 obtain ⟨l, hh⟩ := start_R s z 0
 have hsp : CallOk Try.prog ⟨w, noO, Gf bm es⟩ spFd := spLH_ok (fun p hp => by cases hp) (hkFind_ok und75 und3 zer95 (fun I B S V F' h => (show Gf bm es I B S V F' from h).1) (fz_R s))
 refine (call_R (us := [uF0, uF1]) noExt hsp Try.func55 rfl run_find (xs := [.pointer (some ⟨b, 0, none⟩), .int .u64 z]) (by simp only [AVal.denL, me_den (show (envR l bm es b z 0).N 0 = some b from rfl)]; rfl) hh (CRel_nil.2 trivial) (Gf_keep bm es)).mono fun e w' ⟨v, he, hf, u, hu, ρ, hd⟩ => ⟨v, he, hf, ?_⟩
 simp only [List.mem_cons, List.not_mem_nil, or_false] at hu
 rcases hu with rfl | rfl
 · exact .inl (Option.some.inj hd).symm
 · simp only [uF1, AVal.den, AVal.denL, BT.den] at hd
   cases hs : (AVal.slice 12 (.lit 0) (.var 230) (.nv 13)).den ρ with
   | none => simp only [AVal.den] at hs; rw [hs] at hd; cases hd
   | some sv =>
    obtain ⟨y, o, n, c, rfl, _, ho, _, _⟩ := den_slice hs
    obtain rfl : o = 0 := by
     have : some (Int.ofNat 0) = some (Int.ofNat o) := ho
     exact (Int.ofNat.inj (Option.some.inj this)).symm
    simp only [AVal.den] at hs
    rw [hs] at hd
    exact .inr ⟨y, n, c, (Option.some.inj hd).symm⟩
end Ar
end Go.Proofs.Ytighjgmgpphohaa
end
section
namespace Go.Proofs.Ytighjgmgpphohaa
open Go.Vm Go.Vm.Le Go.Vm.Mb
namespace Ar
theorem denL_at {ρ : Env} : ∀ {vs : List AVal} {xs : List Value} {i : Nat} {v : AVal}, AVal.denL ρ vs = some xs -> vs[i]? = some v -> ∃ x, xs[i]? = some x /\ v.den ρ = some x
 | [], _, _, _, _, h => by simp at h
 | a :: r, xs, i, v, hd, h => by
  simp only [AVal.denL] at hd
  cases ha : a.den ρ with
  | none => rw [ha] at hd; cases hd
  | some x => cases hr : AVal.denL ρ r with
   | none => rw [ha, hr] at hd; cases hd
   | some ys =>
    rw [ha, hr] at hd; cases hd
    cases i with
    | zero =>
     simp only [List.getElem?_cons_zero, Option.some.injEq] at h
     subst h
     exact ⟨x, rfl, ha⟩
    | succ i =>
     simp only [List.getElem?_cons_succ] at h ⊢
     exact denL_at hr h
theorem denL_len {ρ : Env} : ∀ {vs : List AVal} {xs : List Value}, AVal.denL ρ vs = some xs -> xs.length = vs.length
 | [], _, h => by cases h; rfl
 | a :: r, xs, hd => by
  simp only [AVal.denL] at hd
  cases ha : a.den ρ with
  | none => rw [ha] at hd; cases hd
  | some x => cases hr : AVal.denL ρ r with
   | none => rw [ha, hr] at hd; cases hd
   | some ys =>
    rw [ha, hr] at hd; cases hd
    simp only [List.length_cons, denL_len hr]
def uYes (nl : Nat) : AVal := .tuple [.slice nl (.lit 0) (.nv (nl + 1)) (.nv (nl + 2)), .bool (.lit true)]
def spFind : SpG := fun args H nl cs => match args with
 | [.ptr l (.lit (.ofNat 0)), .int .u64 _] => match H.get l with
  | some ⟨.cells vs 77 none, _⟩ => cond (Nat.beq vs.length 22) (match (vs.drop 15 : List AVal) with
   | .map m :: _ => match H.get m with
    | some ⟨.big 1 _, _⟩ => some [.ret uF0 H nl cs, .ret (uYes nl) H (nl + 3) ((.cmp .geq (.nv (nl + 1)) (.lit 0), true) :: cs)]
    | _ => none
   | _ => none) none
  | _ => none
 | _ => none
theorem spFind_ok {β : Base} : SpGOk Try.prog β 55 spFind := by
 intro args H nl cs ls ρ w xs hr hx hh hc
 unfold spFind at hr
 split at hr
 rotate_left
 · cases hr
 rename_i l ht
 split at hr
 rotate_left
 · cases hr
 rename_i vs rw0 hl
 cases hb22 : Nat.beq vs.length 22 with
 | false => rw [hb22] at hr; cases hr
 | true =>
  rw [hb22] at hr; simp only [cond_true] at hr
  have h22 := Nat.eq_of_beq_eq_true hb22
  split at hr
  rotate_left
  · cases hr
  rename_i m tl hv15
  have hv15 : vs[15]? = some (.map m) := by
   have := congrArg (fun l => l[0]?) hv15
   simpa using this
  split at hr
  rotate_left
  · cases hr
  rename_i cc rw1 hm
  cases hr
  obtain ⟨b, o, hN, ho, ys, c, fr, rfl, hd, hp, htl, _⟩ := hh.blk l _ hl
  have hys := denL_len hd
  have hct : c.toList = ys := by
   obtain ⟨t, ht'⟩ := hp
   have hl2 : c.toList.length = 22 := by
    have : c.size = vs.length := htl
    rw [Array.length_toList, this, h22]
   rw [<- ht'] at hl2 ⊢
   rw [List.length_append, hys, h22] at hl2
   rw [List.eq_nil_of_length_eq_zero (l := t) (by omega), List.append_nil]
  obtain ⟨y, hy15, hyd⟩ := denL_at hd hv15
  obtain ⟨bm, x, F2, hNm, hx2, hfam, _⟩ := hh.bigAt hm
  obtain ⟨es, rfl, hB⟩ := fam1_inv hfam
  have hy : y = .map (some bm) := by
   simp only [AVal.den, hNm, Option.map_some, Option.some.injEq] at hyd
   exact hyd.symm
  subst hy
  have hat : BlkAt w b bm es F2 := ⟨⟨c, fr, ho, by rw [hct, hys, h22], by rw [hct]; exact hy15⟩, hB⟩
  simp only [AVal.denL] at hx
  cases hp1 : (AVal.ptr l (.lit 0)).den ρ with
  | none => rw [show (IT.lit (Int.ofNat 0)) = .lit 0 from rfl, hp1] at hx; cases hx
  | some pv =>
   rw [show (IT.lit (Int.ofNat 0)) = .lit 0 from rfl, hp1] at hx
   cases hn : ht.den ρ with
   | none => simp only [AVal.den, hn, Option.map_none] at hx; cases hx
   | some z =>
    simp only [AVal.den, hn, Option.map_some] at hx; cases hx
    obtain rfl := Lp.ptr_of hp1 hN
    refine (find55 hat z).mono fun e w' ⟨v, he, hf, hR⟩ => ?_
    have hh' := hh.framed hf
    rcases hR with rfl | ⟨y0, n, cp, rfl⟩
    · exact ⟨_, he, _, _, _, _, ρ, List.mem_cons_self, Env.Le.refl ρ, rfl, hh', hc⟩
    · have q1 := hh'.num y0
      have q2 := q1.num n
      have q3 := q2.num cp
      have l1 : ρ.Le (ρ.put nl y0) := Env.le_put (hh'.fresh nl (Nat.le_refl _))
      have l2 : (ρ.put nl y0).Le ((ρ.put nl y0).put (nl + 1) n) := Env.le_put (q1.fresh (nl + 1) (Nat.le_refl _))
      have l3 : ((ρ.put nl y0).put (nl + 1) n).Le (((ρ.put nl y0).put (nl + 1) n).put (nl + 2) cp) := Env.le_put (q2.fresh (nl + 2) (Nat.le_refl _))
      have hle := (l1.trans l2).trans l3
      obtain ⟨ρ3, hρ3⟩ : ∃ ρ3, ρ3 = ((ρ.put nl y0).put (nl + 1) n).put (nl + 2) cp := ⟨_, rfl⟩
      have n0 : ρ3.N nl = some y0 := by rw [hρ3]; exact l3.n _ _ (l2.n _ _ (Env.put_same ..))
      have n1 : ρ3.N (nl + 1) = some n := by rw [hρ3]; exact l3.n _ _ (Env.put_same ..)
      have n2 : ρ3.N (nl + 2) = some cp := by rw [hρ3]; exact Env.put_same ..
      rw [<- hρ3] at hle q3
      refine ⟨_, he, _, _, _, _, ρ3, List.mem_cons_of_mem _ List.mem_cons_self, hle, ?_, q3, c1 (geqT (nvD n1) (litD 0) (Int.natCast_nonneg _)) (hc.mono hle)⟩
      have d3 := den_slice_of n0 (off := .lit 0) (o := 0) rfl (nvD n1) (nvD n2)
      simp only [uYes, AVal.den, AVal.denL, BT.den] at d3 ⊢
      rw [d3]; rfl
def spFree : CallF := spLH [(55, spFind), (73, Lp.spGive)] hkA
theorem spFree_ok (w : World) (F : Nat -> Prop) : CallOk Try.prog ⟨w, F, GAr⟩ spFree := by
 refine spLH_ok (fun p hp => ?_) (hkA_ok fun _ _ _ _ _ h => h.2)
 simp only [List.mem_cons, List.not_mem_nil, or_false] at hp
 rcases hp with rfl | rfl
 · exact spFind_ok
 · exact Lp.spGive_ok fun _ _ _ _ _ h => h.1
def QFree (x : Value) : Prop := ∃ z, x = .int .i64 z
theorem free_run : ((run Try.prog [] spFree 4000 true 70 (entry Try.f70 (Try.f70.body.getD .ret) [me, uV 222] (ofP hA) 3 [])).map fun ls => (ls.filterMap (sumMD gA [0, 1, 2] (eA (iV 230)) [])).all okA) = some true := by kernel_rfl
theorem free70 {A : List Int} {most : Int} {hi : Nat} {K : List Int} {es : Es} {w : World} {b : Nat} {F : Nat -> Prop} (s : ArenaIn A most hi K es w b F) (z : Int) :
 Calls Try.prog 70 #[.pointer (some ⟨b, 0, none⟩), .int .u64 z] w (fun e w' => ∃ x, e = .returned x /\ RA w b F QFree x w') := by
 obtain ⟨bs, bm, hh⟩ := start_A s z 0 0
 exact call_A noExt (spFree_ok w F) Try.func70 rfl free_run (xs := [.pointer (some ⟨b, 0, none⟩), .int .u64 z]) (by simp only [AVal.denL, me_den (show (envA A (encL (most :: (hi : Int) :: K)) (codeE es) z 0 0 b bs bm).N 0 = some b from rfl)]; rfl) hh (CRel_nil.2 trivial) rfl fun ρ x h => ⟨ρ.I 230, by
  simp only [iV, AVal.den, IT.den, Option.map_some] at h
  exact (Option.some.inj h).symm⟩
end Ar
end Go.Proofs.Ytighjgmgpphohaa
end
section
namespace Go.Proofs.Ytighjgmgpphohaa
open Go.Vm Go.Vm.Le Go.Vm.Mb
namespace Ar
def arR : HB := ⟨arC (.var 51) (.var 50), true⟩
def Gr (bm bs : Nat) (es : Es) : GP := fun I B S V F => Gf bm es I B S V F /\ V 51 = .pointer (some ⟨bs, 0, none⟩)
theorem Gr_keep (bm bs : Nat) (es : Es) : GKeep (Gr bm bs es) := fun ρ ρ' hV hI hF h => ⟨Gf_keep bm es ρ ρ' hV hI hF h.1, (hV 51).trans h.2⟩
def envB (A : List Int) (es : Es) (z0 z1 : Int) (b bs bm : Nat) : Env :=
 ⟨fun i => if i = 90 then codeE es else if i = 91 then z0 else if i = 92 then z1 else A.getD (i - 200) 0, fun _ => false, fun _ => default, fun i => if i = 50 then .map (some bm) else .pointer (some ⟨bs, 0, none⟩), fun i => if i = 0 then some b else none, FA⟩
theorem start_B {A : List Int} {es : Es} {w : World} {b bs bm : Nat} {c : Array Value} {fr : Nat × Nat} (hl : A.length = 20) (hb : w.heap[b]? = some (.cells c 77 fr)) (hc : c.toList = arenaC A (.pointer (some ⟨bs, 0, none⟩)) (.map (some bm))) (hf : fr.2 <= fr.1 ∨ c.size <= fr.1) (z0 z1 : Int) :
 HRel ⟨w, (· = b), Gr bm bs es⟩ (envB A es z0 z1 b bs bm) (ofP [(0, arR)]) 1 w := by
 obtain ⟨a0, a1, a2, a3, a4, a5, a6, a7, a8, a9, a10, a11, a12, a13, a14, a15, a16, a17, a18, a19, rfl⟩ := len20 hl
 have hsize : c.size = 22 := by
  have := congrArg List.length hc
  simpa [arenaC] using this
 refine HRel.owned [(0, arR)] (fun p hp => ?_) (fun p hp q hq _ _ => ?_) (fun p hp _ y hy => ?_) (fun i hi => ?_) ⟨⟨⟨rfl, rfl, rfl, rfl, rfl, rfl⟩, rfl, rfl⟩, rfl⟩
 · rw [List.mem_singleton.1 hp]
   exact ⟨b, _, rfl, hb, _, c, fr, rfl, rfl, by rw [hc]; exact List.prefix_refl _, hsize, fun _ => hf⟩
 · rw [List.mem_singleton.1 hp, List.mem_singleton.1 hq]
 · rw [List.mem_singleton.1 hp] at hy
   exact (Option.some.inj hy).symm
 · show (if i = 0 then some b else none) = none
   rw [if_neg (by omega)]
theorem end_B {most : Int} {hi : Nat} {K : List Int} {es : Es} {w w' : World} {b bs bm : Nat} {F F1 F2 : Nat -> Prop} {ρ : Env} {nl : Nat} (hr : HRel ⟨w, (· = b), Gr bm bs es⟩ ρ (ofP [(0, arR)]) nl w') (hb : ρ.N 0 = some b)
 (h1 : StockIn w bs F1 most hi K) (h2 : BlksIn es w bm F2) (n1 : ¬ F1 b) (n2 : ¬ F2 b) (n3 : ∀ y, F1 y -> ¬ F2 y) (hF : ∀ y, F y ↔ y = b ∨ F1 y ∨ F2 y) : ∃ F', BigStep w w' F F' /\ SomeA w' b F' := by
 have g0 : (ofP [(0, arR)]).get 0 = some arR := rfl
 obtain ⟨b0, o, hb0, ho, xs, c, fr, rfl, hd, hp, ht, hf⟩ := hr.blk 0 _ g0
 rw [hb] at hb0; cases hb0
 have hg : Gr bm bs es ρ.I ρ.B ρ.S ρ.V ρ.F := hr.g
 have v50 := hg.1.2.1
 have v51 := hg.2
 have hd2 : xs = arenaC ((List.range 20).map fun i => ρ.I (200 + i)) (.pointer (some ⟨bs, 0, none⟩)) (.map (some bm)) := by
  have h3 : AVal.denL ρ [iV 200, iV 201, iV 202, iV 203, uV 204, uV 205, uV 206, uV 207, uV 208, uV 209, uV 210, uV 211, uV 212, uV 213, .var 51, .var 50, iV 214, iV 215, iV 216, iV 217, iV 218, iV 219] = some (arenaC ((List.range 20).map fun i => ρ.I (200 + i)) (.pointer (some ⟨bs, 0, none⟩)) (.map (some bm))) := by
   simp only [AVal.denL, iV, uV, AVal.den, IT.den, Option.map_some, v50, v51]
   rfl
  exact Option.some.inj (hd.symm.trans h3)
 subst hd2
 have hc : c.toList = arenaC ((List.range 20).map fun i => ρ.I (200 + i)) (.pointer (some ⟨bs, 0, none⟩)) (.map (some bm)) := by
  obtain ⟨t, ht'⟩ := hp
  have hl : c.toList.length = 22 := by
   have : c.size = 22 := ht
   simpa using this
  rw [<- ht'] at hl ⊢
  have : t = [] := by
   have h0 : (arenaC ((List.range 20).map fun i => ρ.I (200 + i)) (.pointer (some ⟨bs, 0, none⟩)) (.map (some bm))).length = 22 := rfl
   rw [List.length_append, h0] at hl
   exact List.eq_nil_of_length_eq_zero (by omega)
  rw [this, List.append_nil]
 have fr1 : ∀ y, y < w.heap.size -> y ≠ b -> w'.heap[y]? = w.heap[y]? := hr.frame
 refine ⟨F, ⟨hr.size, fun y hy hn => fr1 y hy fun e => hn ((hF y).2 (.inl e)), hr.tape, hr.os, hr.out, fun y hy => .inl hy⟩, _, most, hi, K, es, ⟨rfl, c, fr, bs, bm, F1, F2, ho, hc, hf rfl, h1.local fun y hy => ?_, h2.local fun y hy => ?_, n1, n2, n3, hF⟩⟩
 · exact fr1 y (h1.lt hy) fun e => n1 (e ▸ hy)
 · exact fr1 y (h2.lt hy) fun e => n2 (e ▸ hy)
def okB : LM -> Bool
 | .done 0 [] σ => σ.V.isEmpty && (σ.I.all fun p => Nat.ble 200 p.1) && (match σ.N with
  | [(0, 0)] => true
  | _ => false)
 | _ => false
theorem okB_inv {s : LM} (h : okB s = true) : ∃ σ : Go.Vm.Sub, s = .done 0 [] σ /\ σ.V.isEmpty = true /\ (σ.I.all fun p => Nat.ble 200 p.1) = true /\ σ.N = [(0, 0)] := by
 unfold okB at h
 split at h
 · rename_i σ
   simp only [Bool.and_eq_true] at h
   obtain ⟨⟨h1, h2⟩, h3⟩ := h
   split at h3
   · rename_i hN
     exact ⟨σ, rfl, h1, h2, hN⟩
   · cases h3
 · cases h
def eB (u : AVal) : List Tpl := [⟨[(0, u)], 1, [(0, arR)], 20, [], 0⟩]
def spRd : CallF := spLH [] (hkFind 75 50 90)
theorem read_run : ((run Try.prog [] spRd 4000 true 65 (entry Try.f65 (Try.f65.body.getD .ret) [me, .agg [uV 91, iV 92]] (ofP [(0, arR)]) 1 [])).map fun ls => (ls.filterMap (sumMD gA [0] (eB uLay) [])).all okB) = some true := by kernel_rfl
theorem call_B {f : FuncId} {fn : Func} {cd : Code} {sp : CallF} {pl : PL} {n : Nat} {args : List AVal} {xs : List Value} {u : AVal} {Q : Value -> Prop} {most : Int} {hi : Nat} {K : List Int} {es : Es} {w : World} {b bs bm : Nat} {F F1 F2 : Nat -> Prop} {ρ : Env}
 (hsp : CallOk Try.prog ⟨w, (· = b), Gr bm bs es⟩ sp) (hfn : Try.prog.funcs[f]? = some fn) (hbd : fn.body = some cd)
 (hrun : ((run Try.prog [] sp n pl f (entry fn cd args (ofP [(0, arR)]) 1 [])).map fun ls => (ls.filterMap (sumMD gA [0] (eB u) [])).all okB) = some true)
 (hx : AVal.denL ρ args = some xs) (hh : HRel ⟨w, (· = b), Gr bm bs es⟩ ρ (ofP [(0, arR)]) 1 w) (hN : ρ.N 0 = some b) (hQ : ∀ ρ x, u.den ρ = some x -> Q x)
 (h1 : StockIn w bs F1 most hi K) (h2 : BlksIn es w bm F2) (n1 : ¬ F1 b) (n2 : ¬ F2 b) (n3 : ∀ y, F1 y -> ¬ F2 y) (hF : ∀ y, F y ↔ y = b ∨ F1 y ∨ F2 y) :
 Calls Try.prog f xs.toArray w (fun e w' => ∃ x, e = .returned x /\ RA w b F Q x w') := by
 obtain ⟨ls, hls, hall⟩ := Option.map_eq_some_iff.1 hrun
 refine calls_sumsE (β := ⟨w, (· = b), Gr bm bs es⟩) (R := RA w b F Q) (g := gA) (L := [0]) (Rs := eB u) (Ts := []) (pl := pl) noCount noExt hsp follows hfn hbd (by rw [hls]; rfl) hx hh (CRel_nil.2 trivial) fun s hs => ?_
 obtain ⟨σ, rfl, hV, hI, hσ⟩ := okB_inv (List.all_eq_true.1 hall s hs)
 refine doneR (T := ⟨[(0, u)], 1, [(0, arR)], 20, [], 0⟩) rfl fun ρ' hle hG => ⟨keep_app (Gr_keep bm bs es) hV hI hG, CRel_nil.2 trivial, fun x w' r => ?_⟩
 obtain ⟨y, hy, he⟩ := r.t 0 u rfl
 obtain rfl : x = y := Option.some.inj he
 refine ⟨hQ _ _ hy, end_B r.h ?_ h1 h2 n1 n2 n3 hF⟩
 show (σ.app ρ').N 0 = some b
 have : (σ.app ρ').N 0 = ρ'.N 0 := by simp only [Go.Vm.Sub.app, hσ]; rfl
 rw [this]; exact hle.n _ _ hN
theorem spRd_ok {w : World} {b bs bm : Nat} {es : Es} {F2 : Nat -> Prop} (h2 : BlksIn es w bm F2) (n2 : ¬ F2 b) : CallOk Try.prog ⟨w, (· = b), Gr bm bs es⟩ spRd := by
 have hfz : Fz ⟨w, (· = b), Gr bm bs es⟩ 50 90 := by
  refine ⟨bm, es, es, F2, h2, List.Perm.refl _, fun y hy e => n2 (by have : y = b := e; rw [<- this]; exact hy), fun I B S V F' h => ?_⟩
  have h2 : Gr bm bs es I B S V F' := h
  exact h2.1.2
 exact spLH_ok (fun p hp => by cases hp) (hkFind_ok und75 und3 zer95 (fun I B S V F' h => (show Gr bm bs es I B S V F' from h).1.1) hfz)
theorem read65 {A : List Int} {most : Int} {hi : Nat} {K : List Int} {es : Es} {w : World} {b : Nat} {F : Nat -> Prop} (s : ArenaIn A most hi K es w b F) (z0 z1 : Int) :
 Calls Try.prog 65 #[.pointer (some ⟨b, 0, none⟩), .agg #[.int .u64 z0, .int .i64 z1]] w (fun e w' => ∃ x, e = .returned x /\ RA w b F QLay x w') := by
 obtain ⟨hl, c, fr, bs, bm, F1, F2, hb, hc, hf, h1, h2, n1, n2, n3, hF⟩ := s
 have hh := start_B (es := es) hl hb hc hf z0 z1
 exact call_B (spRd_ok h2 n2) Try.func65 rfl read_run (xs := [.pointer (some ⟨b, 0, none⟩), .agg #[.int .u64 z0, .int .i64 z1]]) (by simp only [AVal.denL, me_den (show (envB A es z0 z1 b bs bm).N 0 = some b from rfl)]; rfl) hh rfl (fun ρ x h => uLay_den h) h1 h2 n1 n2 n3 hF
end Ar
end Go.Proofs.Ytighjgmgpphohaa
end
