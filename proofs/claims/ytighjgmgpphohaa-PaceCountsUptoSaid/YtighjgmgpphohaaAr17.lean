/- A machine for abstract states over the model (part 37): how many blocks a map has that is only read. -/
import Derived.Test.YtighjgmgpphohaaAr7
import Derived.Test.YtighjgmgpphohaaAr12
import Derived.Laws.StructEq
section
namespace Go.Vm
open Mb
def fCnt (x _ : Int) : Int := ((esOf x).length : Nat)
def hkLen (t : TypeId) (v ci : Nat) : OpF := fun o ev H nl cs => match o with
 | .call { callee := .builtin .len, args, argTypes } => match args.toList, argTypes.toList with
  | [x], [t'] => cond (Nat.beq t' t) (match ev x with
   | some (.var v') => cond (Nat.beq v' v) (some [.ret (.int .i64 (.fn 72 (.var ci) (.lit 0))) H nl cs]) none
   | _ => none) none
  | _, _ => none
 | _ => none
theorem hkLen_ok {P : Program} {β : Base} {t kt et : TypeId} (hu : P.underlying t = some (.map kt et)) {v ci : Nat} (hfz : Fz β v ci) (hG : ∀ I B S V F, β.G I B S V F -> F 72 = fCnt) : HookOk P β (hkLen t v ci) := by
 intro o ev H nl cs ls ρ w f h he hh hc _
 unfold hkLen at h
 split at h
 rotate_left
 · cases h
 rename_i args tys ho
 split at h
 rotate_left
 · cases h
 rename_i x t' hargs htys
 cases hb : Nat.beq t' t with
 | false => rw [hb] at h; cases h
 | true =>
  rw [hb] at h; simp only [cond_true] at h
  obtain rfl := Nat.eq_of_beq_eq_true hb
  split at h
  rotate_left
  · cases h
  rename_i v' hm
  cases hv : Nat.beq v' v with
  | false => rw [hv] at h; cases h
  | true =>
   rw [hv] at h; simp only [cond_true, Option.some.injEq] at h
   obtain rfl := Nat.eq_of_beq_eq_true hv
   subst h
   obtain ⟨bm, es, es0, F, hB0, hperm, hno, hpin⟩ := hfz
   obtain ⟨hV, hI⟩ := hpin _ _ _ _ _ hh.g
   have hB := frz hh hB0 hno
   have hfm : f x = .map (some bm) := by
    have := he x _ hm
    simp only [AVal.den, Option.some.injEq] at this
    rw [<- this, hV]
   obtain ⟨_, _, m, cl, ad, cap, hg, _, hml, _⟩ := hB
   have hlen : m.size = es0.length := by
    have h1 := congrArg List.length hml
    simp only [List.length_map, Array.length_toList] at h1
    rw [h1, hperm.length_eq]
   have hx : (IT.fn 72 (.var ci) (.lit 0)).den ρ = some ((es0.length : Nat) : Int) := by
    have hci : (IT.var ci).den ρ = some (codeE es0) := congrArg some hI
    rw [fnD hci (litD 0), hG _ _ _ _ _ hh.g]
    simp only [fCnt, esOf_code]
   have ha : args.map f = #[f x] := by apply Array.toList_inj.1; simp [hargs]
   have ht : tys = #[t'] := by apply Array.toList_inj.1; simp [htys]
   subst ht
   have hrun : (Builtin.len_ #[t'] o.type #[.map (some bm)]).run P w = .ok (.int .i64 ((es0.length : Nat) : Int)) w := by
    simp [Builtin.len_, run_und hu, goInt, getObj_map hg, hlen]
   exact ⟨.int .i64 ((es0.length : Nat) : Int), w, .inl (by simp [execOp, ho, resolve, invoke, builtin, ha, hfm, hrun]), _, _, _, _, ρ, List.mem_cons_self, Env.Le.refl ρ, by simp only [AVal.den, hx, Option.map_some], hh, hc⟩
end Go.Vm
end
section
namespace Go.Proofs.Ytighjgmgpphohaa
open Go.Vm Go.Vm.Le Go.Vm.Mb
namespace Ar
def spEqW : SpG := fun args H nl cs => match args with
 | [.slice l off n _, .slice l' off' n' _] => match H.get l, H.get l' with
  | some ⟨.arr (.code [.u64] c) [.u64] _ m o _, _⟩, some ⟨.arr (.code [.u64] c') [.u64] _ m' o' _, _⟩ =>
   cond (IT.beq n m && (IT.beq n' m' && (IT.beq n n' && (IT.beq off o && (IT.beq off' o' && (IT.beq c c' && isB (lookB cs (.cmp .leq n (.lit 1000000))) true))))))
    (some [.ret (.bool (.lit true)) H nl cs]) none
  | _, _ => none
 | _ => none
def hkS : OpF := orH (hkLen 75 50 90) (orH (hkLen 75 52 90) (orH (hkRange 75 50 95) (orH (hkNext 90) (orH (hkEntry 90) (hkFind 75 52 90)))))
def spS : CallF := spLH [(50, spEqW)] hkS
def aF : List AVal := [.var 50, .var 52, .func (.func 49) [] []]
def tF : Tpl := ⟨[(1, .var 52), (2, .func (.func 49) [] []), (6, .bool (.lit false)), (17, .ptr 0 (.lit 0))], 38, [(0, itB)], 1, csP, 3⟩
end Ar
end Go.Proofs.Ytighjgmgpphohaa
end
section
namespace Go.Proofs.Ytighjgmgpphohaa
open Go.Vm Go.Vm.Le Go.Vm.Mb
namespace Ar
theorem words_of {β : Base} {ρ : Env} {H : Heap} {nl : Nat} {w : World} {l : Nat} {off n cp c : IT} {el : TypeId} {m o : IT} {cp' : Option IT} {rw : Bool} {xv : Value} (hh : HRel β ρ H nl w) (hg : H.get l = some ⟨.arr (.code [.u64] c) [.u64] el m o cp', rw⟩) (hx : (AVal.slice l off n cp).den ρ = some xv) (e1 : n = m) (e2 : off = o) :
 ∃ b k q cap z, xv = .slice (some ⟨b, q, none⟩) k cap /\ n.den ρ = some (k : Int) /\ c.den ρ = some z /\ WordsAt w b q k z := by
 subst e1; subst e2
 obtain ⟨b, q, k, cap, rfl, hN, hoff, hlen, hcap⟩ := den_slice hx
 obtain ⟨b', ob, hb', hob, xs, c0, fr, el', m', st, rfl, _, hd, hst, ⟨hsz, hp⟩, hn, hty, _, _⟩ := hh.blk l _ hg
 rw [hN] at hb'; cases hb'
 have hq : q = st := by rw [hoff] at hst; exact Int.ofNat.inj (Option.some.inj hst)
 have hk : k = m' := by rw [hlen] at hn; exact Int.ofNat.inj (Option.some.inj hn)
 subst hq; subst hk
 simp only [AT.den] at hd
 cases hc : c.den ρ with
 | none => rw [hc] at hd; cases hd
 | some z =>
  rw [hc] at hd
  have hd := Option.some.inj hd
  subst hd
  exact ⟨b, k, q, cap, z, rfl, hlen, rfl, c0, fr, el', hob, hsz, hp, hty⟩
theorem spEqW_ok {β : Base} : SpGOk Try.prog β 50 spEqW := by
 intro args H nl cs ls ρ w xs hr hx hh hc
 unfold spEqW at hr
 split at hr
 rotate_left
 · cases hr
 rename_i l off n cp l' off' n' cp'
 split at hr
 rotate_left
 · cases hr
 rename_i c el1 m o r1 rw1 c' el2 m' o' r2 rw2 hg hg'
 cases hb : (IT.beq n m && (IT.beq n' m' && (IT.beq n n' && (IT.beq off o && (IT.beq off' o' && (IT.beq c c' && isB (lookB cs (.cmp .leq n (.lit 1000000))) true)))))) with
 | false => rw [hb] at hr; cases hr
 | true =>
  rw [hb] at hr; simp only [cond_true, Option.some.injEq] at hr
  subst hr
  simp only [Bool.and_eq_true] at hb
  obtain ⟨q1, q2, q3, q4, q5, q6, q7⟩ := hb
  have q1 := IT.beq_eq q1; have q2 := IT.beq_eq q2; have q3 := IT.beq_eq q3; have q4 := IT.beq_eq q4; have q5 := IT.beq_eq q5; have q6 := IT.beq_eq q6
  simp only [AVal.denL] at hx
  cases ha : (AVal.slice l off n cp).den ρ with
  | none => rw [ha] at hx; cases hx
  | some va => cases hb : (AVal.slice l' off' n' cp').den ρ with
   | none => rw [ha, hb] at hx; cases hx
   | some vb =>
    rw [ha, hb] at hx; cases hx
    obtain ⟨b1, k1, o1, cap1, z1, rfl, hn1, hz1, w1⟩ := words_of hh hg ha q1 q4
    obtain ⟨b2, k2, o2, cap2, z2, rfl, hn2, hz2, w2⟩ := words_of hh hg' hb q2 q5
    have hk : k1 = k2 := by rw [<- q3, hn1] at hn2; exact Int.ofNat.inj (Option.some.inj hn2)
    have hz : z1 = z2 := by rw [<- q6, hz1] at hz2; exact Option.some.inj hz2
    subst hk; subst hz
    have hle : k1 <= 1000000 := by
     have h1 := isB_ok q7 hc
     rw [cmpD hn1 (litD 1000000)] at h1
     simp only [intCmp, Option.some.injEq, decide_eq_true_eq] at h1
     omega
    refine (equal50 w1 w2 hle).mono fun e w' ⟨he, hf⟩ => ?_
    exact ⟨_, he, _, _, _, _, ρ, List.mem_cons_self, Env.Le.refl ρ, rfl, hh.framed hf, hc⟩
def FS (bm cl : Nat) (kb : Kb) : Nat -> Int -> Int -> Int := fun k => if k = 72 then fCnt else FC bm cl kb k
def GS (bm cl bm2 : Nat) (es : Es) (m : Array MapEntry) : GP := fun I B S V F => (GMb I B S V F /\ GRg bm cl (kbOf m) I B S V F /\ F 72 = fCnt) /\ V 50 = .map (some bm) /\ V 52 = .map (some bm2) /\ I 90 = codeE es /\ I 95 = encL [(bm : Int), (cl : Int), (cl : Int)]
theorem GS_keep (bm cl bm2 : Nat) (es : Es) (m : Array MapEntry) : GKeep (GS bm cl bm2 es m) := fun ρ ρ' hV hI hF h => by
 obtain ⟨h1, h2, h3, h4, h5⟩ := h
 refine ⟨?_, (hV 50).trans h2, (hV 52).trans h3, (hI 90 (by decide)).trans h4, (hI 95 (by decide)).trans h5⟩
 unfold GMb GRg at h1 ⊢
 rw [hF]; exact h1
def envS (es : Es) (m : Array MapEntry) (bm cl bm2 : Nat) : Env :=
 ⟨fun i => if i = 90 then codeE es else if i = 95 then encL [(bm : Int), (cl : Int), (cl : Int)] else 0, fun _ => false, fun _ => default, fun i => if i = 50 then .map (some bm) else .map (some bm2), fun _ => none, FS bm cl (kbOf m)⟩
def frS {w : World} {bm cl bm2 : Nat} {es : Es} {m : Array MapEntry} {F2 : Nat -> Prop} (h2 : BlksIn es w bm F2) (hm : w.heap[bm]? = some (.map m cl)) : Fr ⟨w, noO, GS bm cl bm2 es m⟩ 50 90 95 :=
 ⟨bm, es, F2, m, cl, h2, fun _ _ => id, hm, fun I B S V F' h => by
  have h1 : GS bm cl bm2 es m I B S V F' := h
  exact ⟨h1.2.1, h1.2.2.2.1, h1.2.2.2.2, h1.1.2.1, h1.1.1⟩⟩
theorem fzS {w : World} {bm cl bm2 : Nat} {es es' : Es} {m : Array MapEntry} {F3 : Nat -> Prop} (h3 : BlksIn es' w bm2 F3) (hp : es'.Perm es) : Fz ⟨w, noO, GS bm cl bm2 es m⟩ 52 90 := by
 refine ⟨bm2, es', es, F3, h3, hp, fun _ _ => id, fun I B S V F' h => ?_⟩
 have h1 : GS bm cl bm2 es m I B S V F' := h
 exact ⟨h1.2.2.1, h1.2.2.2.1⟩
theorem spS_ok {w : World} {bm cl bm2 : Nat} {es es' : Es} {m : Array MapEntry} {F2 F3 : Nat -> Prop} (h2 : BlksIn es w bm F2) (h3 : BlksIn es' w bm2 F3) (hp : es'.Perm es) (hm : w.heap[bm]? = some (.map m cl)) : CallOk Try.prog ⟨w, noO, GS bm cl bm2 es m⟩ spS := by
 have h72 : ∀ I B S V F, (Base.mk w noO (GS bm cl bm2 es m)).G I B S V F -> F 72 = fCnt := fun I B S V F h => by
  have h1 : GS bm cl bm2 es m I B S V F := h
  exact h1.1.2.2
 refine spLH_ok (fun p hp' => ?_) (orH_ok (hkLen_ok und75 (frS h2 hm).fz h72) (orH_ok (hkLen_ok und75 (fzS h3 hp) h72) (orH_ok (hkRange_ok und75 (frS h2 hm)) (orH_ok (hkNext_ok (frS h2 hm)) (orH_ok (hkEntry_ok (frS h2 hm)) (hkFind_ok und75 und3 zer95 (fun I B S V F h => ?_) (fzS h3 hp)))))))
 · rw [List.mem_singleton.1 hp']
   exact spEqW_ok
 · have h1 : GS bm cl bm2 es m I B S V F := h
   exact h1.1.1
noncomputable def fb0 : Code := ((loopsOf (Try.f51.body.getD .ret) []).getD 0 (.ret, [])).1
noncomputable def fk0 : List Item := ((loopsOf (Try.f51.body.getD .ret) []).getD 0 (.ret, [])).2
noncomputable def sums_fe : List LM := [.next 0 (.code (.loop fb0) :: fk0) [] ⟨[(222, (.var 95))], [], [], [], [(0, 0)]⟩]
abbrev qar17xx0 : BT × Bool := ((.cmp .eql (.fn 69 (.var 222) (.lit 0)) (.lit 1)), true)
abbrev qar17xx1 : BT × Bool := ((.cmp .eql (.fn 60 (.var 90) (.fn 66 (.nv 1) (.lit 0))) (.lit 1)), true)
noncomputable def sums_fr : List LM := [.done 0 [((.cmp .eql (.fn 68 (.var 222) (.lit 0)) (.lit 1)), true), qar17xx0] ⟨[], [], [], [], []⟩,
 .next 0 (.inLoop fb0 :: fk0) [((.cmp .geq (.fn 62 (.var 90) (.fn 66 (.nv 1) (.lit 0))) (.lit 0)), true), qar17xx1, ((.cmp .eql (.fn 62 (.var 90) (.fn 66 (.nv 1) (.lit 0))) (.lit 0)), false), ((.cmp .gtr (.fn 62 (.var 90) (.fn 66 (.nv 1) (.lit 0))) (.lit 2048)), false), ((.cmp .geq (.fn 62 (.var 90) (.fn 66 (.nv 1) (.lit 0))) (.lit 1)), true), ((.cmp .leq (.fn 62 (.var 90) (.fn 66 (.nv 1) (.lit 0))) (.lit 1000000)), true), qar17xx1, ((.cmp .eql (.fn 67 (.var 222) (.nv 1)) (.lit 1)), true), ((.cmp .geq (.nv 1) (.lit 0)), true), ((.cmp .eql (.fn 68 (.var 222) (.lit 0)) (.lit 1)), false), qar17xx0] ⟨[(222, (.un 3 (.var 222) (.nv 1)))], [], [], [], [(0, 0)]⟩]
theorem run_fe : (run Try.prog [] spS 4000 true 51 (entry Try.f51 (Try.f51.body.getD .ret) aF .leaf 0 [])).map (·.filterMap (sumMO gA [] eQ [tF])) = some sums_fe := by kernel_rfl
theorem run_fr : (run Try.prog [] spS 4000 true 51 (tF.st (.code fb0 :: .inLoop fb0 :: fk0))).map (·.filterMap (sumMO gA [] eQ [tF])) = some sums_fr := by kernel_rfl
theorem loop_f {w : World} {bm cl bm2 : Nat} {es es' : Es} {m : Array MapEntry} {F2 F3 : Nat -> Prop} (h2 : BlksIn es w bm F2) (h3 : BlksIn es' w bm2 F3) (hp : es'.Perm es) (hm : w.heap[bm]? = some (.map m cl)) :
 ∀ ρ, (∃ sn : List Nat, ρ.I 222 = encL ((bm : Int) :: (cl : Int) :: (cl : Int) :: sn.map Int.ofNat) /\ sn.Nodup /\ ∀ k ∈ sn, k ∈ m.toList.map (·.born)) -> ∀ todo a w', todo = .inLoop fb0 :: fk0 ∨ todo = .code (.loop fb0) :: fk0 -> SRel ⟨w, noO, GS bm cl bm2 es m⟩ ρ (tF.st todo) a w' -> Goes Try.prog 51 (REq w) todo a w' := by
 refine loop_goesO (β := ⟨w, noO, GS bm cl bm2 es m⟩) noCount noExt (spS_ok h2 h3 hp hm) follows run_fr (fun ρ => ∃ sn : List Nat, ρ.I 222 = encL ((bm : Int) :: (cl : Int) :: (cl : Int) :: sn.map Int.ofNat) /\ sn.Nodup /\ ∀ k ∈ sn, k ∈ m.toList.map (·.born)) (fun ρ => m.size + 3 - (decL (ρ.I 222)).length) (fun ρ hJ hcs hG ih s hs => ?_)
 obtain ⟨sn, jc, jn, ji⟩ := hJ
 have hG0 : GS bm cl bm2 es m ρ.I ρ.B ρ.S ρ.V ρ.F := hG
 obtain ⟨⟨_, ⟨g66, g67, g68, g69⟩, _⟩, _, _, i90, _⟩ := hG0
 have hdr : (decL (ρ.I 222)).drop 3 = sn.map Int.ofNat := by rw [jc, decL_encL]; rfl
 have hln : (decL (ρ.I 222)).length = sn.length + 3 := by rw [jc, decL_encL]; simp
 simp only [sums_fr, List.mem_cons, List.not_mem_nil, or_false] at hs
 rcases hs with rfl | rfl
 · refine ⟨trivial, fun ρ' hle hc T hT hG' => ?_⟩
   have hT : (⟨[(0, .bool (.lit true))], 1, [], 20, [], 0⟩ : Tpl) = T := Option.some.inj hT
   subst hT
   refine ⟨keep_app (GS_keep _ _ _ _ _) rfl rfl hG', CRel_nil.2 trivial, fun x w' r => ?_⟩
   obtain ⟨y, hy, he⟩ := r.t 0 (.bool (.lit true)) rfl
   obtain rfl : x = y := Option.some.inj he
   exact ⟨(Option.some.inj hy).symm, Framed.of r.h⟩
 · refine ⟨trivial, fun ρ' hle hc T hT hG' => ?_⟩
   have hT : tF = T := Option.some.inj hT
   subst hT
   simp only [CRel_cons, CRel_nil, and_true] at hc
   obtain ⟨_, _, _, _, _, _, _, hok, hn5, _, _⟩ := hc
   obtain ⟨n, hn⟩ : ∃ n : Nat, ρ'.N 1 = some n := by
    cases h5 : ρ'.N 1 with
    | some n => exact ⟨n, rfl⟩
    | none =>
     exfalso
     simp only [BT.den, IT.den, h5, Option.map_none] at hn5
     cases hn5
   have d222 : (IT.var 222).den ρ' = some (ρ.I 222) := by show some (ρ'.I 222) = _; rw [hle.i]
   have hok1 : fOk (kbOf m) (ρ.I 222) (n : Int) = 1 := by
    have e1 : (IT.fn 67 (.var 222) (.nv 1)).den ρ' = some (fOk (kbOf m) (ρ.I 222) (n : Int)) := by rw [fnD d222 (nvD hn), hle.f, g67]
    rw [cmpD e1 (litD 1)] at hok
    simpa [intCmp] using hok
   have hbn : n ∈ m.toList.map (·.born) /\ n ∉ sn := by
    unfold fOk at hok1
    split at hok1
    · rename_i h4
      simp only [Bool.and_eq_true, Bool.not_eq_true'] at h4
      obtain ⟨e, he, hz⟩ := born_in h4.1
      have h6 : e.born = n := Int.ofNat.inj hz
      refine ⟨by rw [<- h6]; exact List.mem_map.2 ⟨e, he, rfl⟩, fun h7 => ?_⟩
      have h8 := h4.2
      rw [hdr] at h8
      have h9 : (sn.map Int.ofNat).contains (n : Int) = true := List.contains_iff_mem.2 (List.mem_map.2 ⟨n, h7, rfl⟩)
      rw [h9] at h8
      cases h8
    · cases hok1
   have e3 : (IT.un 3 (.var 222) (.nv 1)).den ρ' = some (encL ((bm : Int) :: (cl : Int) :: (cl : Int) :: (sn ++ [n]).map Int.ofNat)) := by
    rw [unD d222 (nvD hn)]
    show some (encL (decL (ρ.I 222) ++ [(n : Int)])) = _
    rw [jc, decL_encL, List.map_append]; rfl
   have g1 : ((IT.un 3 (.var 222) (.nv 1)).den ρ').getD 0 = encL ((bm : Int) :: (cl : Int) :: (cl : Int) :: (sn ++ [n]).map Int.ofNat) := by rw [e3]; rfl
   have hnd : (sn ++ [n]).Nodup := List.nodup_append.2 ⟨jn, by simp, fun a ha b hb e => hbn.2 (by rw [<- List.mem_singleton.1 hb, <- e]; exact ha)⟩
   have hin : ∀ k ∈ sn ++ [n], k ∈ m.toList.map (·.born) := fun k hk => by
    rcases List.mem_append.1 hk with h | h
    · exact ji k h
    · rw [List.mem_singleton.1 h]; exact hbn.1
   have hlt : sn.length < m.size := by
    have h8 := len_sub hnd hin
    simp at h8
    omega
   refine ⟨keep_app (GS_keep _ _ _ _ _) rfl rfl hG', ?_, fun a w' r => ih _ ?_ ⟨sn ++ [n], ?_, hnd, hin⟩ _ a w' (.inl rfl) r⟩
   · simp only [tF, csP, CRel_cons, CRel_nil, and_true]
     have e4 : (IT.var 222).den (Go.Vm.Sub.app ⟨[(222, (.un 3 (.var 222) (.nv 1)))], [], [], [], [(0, 0)]⟩ ρ') = some (encL ((bm : Int) :: (cl : Int) :: (cl : Int) :: (sn ++ [n]).map Int.ofNat)) := congrArg some g1
     unfold preT
     rw [cmpD (fnD e4 (litD 0)) (litD 1)]
     show (intCmp .eql (ρ'.F 69 _ 0) 1) = some true
     rw [hle.f, g69]
     unfold fPre
     rw [decL_encL, if_pos (show List.take 3 ((bm : Int) :: (cl : Int) :: (cl : Int) :: List.map Int.ofNat (sn ++ [n])) = [(bm : Int), (cl : Int), (cl : Int)] from rfl)]
     rfl
   · show m.size + 3 - (decL (((IT.un 3 (.var 222) (.nv 1)).den ρ').getD 0)).length < _
     rw [g1, decL_encL, hln]
     simp
     omega
   · exact g1
theorem eqf51 {w : World} {bm bm2 : Nat} {es es' : Es} {F2 F3 : Nat -> Prop} (h2 : BlksIn es w bm F2) (h3 : BlksIn es' w bm2 F3) (hp : es'.Perm es) {fv : Value} (hfv : ∀ ρ, (AVal.func (.func 49) [] []).den ρ = some fv) :
 Calls Try.prog 51 #[.map (some bm), .map (some bm2), fv] w (fun e w' => e = .returned (.bool true) /\ Framed w w') := by
 obtain ⟨m, cl, hm⟩ : ∃ m cl, w.heap[bm]? = some (.map m cl) := by
  obtain ⟨_, _, m, cl, _, _, h, _⟩ := h2
  exact ⟨m, cl, h⟩
 have hh : HRel ⟨w, noO, GS bm cl bm2 es m⟩ (envS es m bm cl bm2) .leaf 0 w := HRel.startG w _ (fun _ => rfl) ⟨⟨⟨rfl, rfl, rfl, rfl, rfl, rfl⟩, ⟨rfl, rfl, rfl, rfl⟩, rfl⟩, rfl, rfl, rfl, rfl⟩
 refine (calls_sumsO (β := ⟨w, noO, GS bm cl bm2 es m⟩) (R := REq w) noCount noExt (spS_ok h2 h3 hp hm) follows Try.func51 rfl run_fe (xs := [.map (some bm), .map (some bm2), fv]) (by simp only [aF, AVal.denL, hfv]; rfl) hh (CRel_nil.2 trivial) (fun s hs => ?_)).mono fun e w' ⟨v, he, hv, hf⟩ => ⟨by rw [he, hv], hf⟩
 simp only [sums_fe, List.mem_cons, List.not_mem_nil, or_false] at hs
 subst hs
 refine ⟨trivial, fun ρ' hle hc' T hT hG' => ?_⟩
 have hT : tF = T := Option.some.inj hT
 subst hT
 have hi95 : ρ'.I 95 = encL [(bm : Int), (cl : Int), (cl : Int)] := by rw [hle.i]; rfl
 refine ⟨keep_app (GS_keep _ _ _ _ _) rfl rfl hG', ?_, fun a w' r => loop_f h2 h3 hp hm _ ⟨[], ?_, List.nodup_nil, fun k hk => by cases hk⟩ _ a w' (.inr rfl) r⟩
 · simp only [tF, csP, CRel_cons, CRel_nil, and_true]
   unfold preT
   have hg : GS bm cl bm2 es m ρ'.I ρ'.B ρ'.S ρ'.V ρ'.F := hG'
   have e95 : (IT.var 222).den (Go.Vm.Sub.app ⟨[(222, (.var 95))], [], [], [], [(0, 0)]⟩ ρ') = some (encL [(bm : Int), (cl : Int), (cl : Int)]) := congrArg some hi95
   rw [cmpD (fnD e95 (litD 0)) (litD 1)]
   show (intCmp .eql (ρ'.F 69 _ 0) 1) = some true
   rw [hg.1.2.1.2.2.2]
   unfold fPre
   rw [decL_encL, if_pos (show List.take 3 [(bm : Int), (cl : Int), (cl : Int)] = [(bm : Int), (cl : Int), (cl : Int)] from rfl)]
   rfl
 · exact hi95
end Ar
end Go.Proofs.Ytighjgmgpphohaa
end
section
namespace Go.Vm
section
variable {P : Program} (w : World)
theorem run_equalIn_words (d : Nat) (t e : TypeId) (n : Nat) (ht : P.underlying t = some (.array n e)) (he : P.underlying e = some (.int .u64)) (hsz : ∀ w, (sizeOf e).run P w = .ok 1 w) (xs : List Int) (hx : xs.length = n) :
 (Op.equalIn (d + 2) t (.agg (xs.map (Value.int .u64)).toArray) (.agg (xs.map (Value.int .u64)).toArray)).run P w = .ok true w := by
 rw [Op.equalIn]
 simp only [Sem.run_bind, run_underlying ht, Result.andThen_ok, hsz, Std.Legacy.Range.forIn_eq_forIn_range', Std.Legacy.Range.size, Nat.sub_zero, Nat.add_sub_cancel, Nat.div_one]
 have hl : ∀ i ∈ List.range' 0 n 1, i < n := fun i hi => by simpa using (List.mem_range'_1.1 hi).2
 generalize List.range' 0 n 1 = l at hl ⊢
 induction l with
 | nil => simp
 | cons i l ih =>
  have hi : i < n := hl i (by simp)
  have px : (part e (xs.map (Value.int .u64)).toArray (i * 1)).run P w = .ok (.int .u64 (xs.getD i 0)) w := by
   simp [part, isAgg, run_underlying he, List.getD, List.getElem?_eq_getElem (show i < xs.length by omega)]
  have pe : (Op.equalIn (d + 1) e (.int .u64 (xs.getD i 0)) (.int .u64 (xs.getD i 0))).run P w = .ok true w := by
   rw [run_equalIn_int w d e .u64 .u64 _ _ he]
   simp
  simp only [List.forIn_cons, Sem.run_bind, px, pe, Result.andThen_ok]
  simp only [Bool.not_true, Bool.false_eq_true, if_false, Sem.run_pure, Result.andThen_ok]
  exact ih fun j hj => hl j (by simp [hj])
end
def sameU : List AVal -> List AVal -> Bool
 | [], [] => true
 | .int .u64 a :: r, .int .u64 b :: s => IT.beq a b && sameU r s
 | _, _ => false
theorem sameU_den {ρ : Env} : ∀ {l r : List AVal} {xs ys : List Value}, sameU l r = true -> AVal.denL ρ l = some xs -> AVal.denL ρ r = some ys -> xs = ys /\ ∃ L : List Int, xs = L.map (Value.int .u64)
 | [], [], xs, ys, _, h1, h2 => by cases h1; cases h2; exact ⟨rfl, [], rfl⟩
 | a :: l, b :: r, xs, ys, h, h1, h2 => by
  unfold sameU at h
  split at h
  · rename_i e _; cases e
  · rename_i u r1 v s1 e1 e2
    cases e1; cases e2
    simp only [Bool.and_eq_true] at h
    have e := IT.beq_eq h.1
    subst e
    simp only [AVal.denL, AVal.den] at h1 h2
    cases hu : u.den ρ with
    | none => rw [hu] at h1; cases h1
    | some z =>
     rw [hu] at h1 h2
     simp only [Option.map_some] at h1 h2
     cases g1 : AVal.denL ρ l with
     | none => rw [g1] at h1; cases h1
     | some x1 => cases g2 : AVal.denL ρ r with
      | none => rw [g2] at h2; cases h2
      | some y1 =>
       rw [g1] at h1; rw [g2] at h2
       cases h1; cases h2
       obtain ⟨e3, L, e4⟩ := sameU_den h.2 g1 g2
       exact ⟨by rw [e3], z :: L, by rw [e4]; rfl⟩
  · cases h
 | [], b :: r, _, _, h, _, _ => by simp [sameU] at h
 | a :: l, [], _, _, h, _, _ => by
  unfold sameU at h
  split at h
  · rename_i e _; cases e
  · rename_i e; cases e
  · cases h
def hkEqA (t n : Nat) : OpF := fun o ev H nl cs => match o with
 | .binOp .eql t' x y _ => cond (Nat.beq t' t) (match ev x, ev y with
  | some (.agg xs), some (.agg ys) => cond (Nat.beq xs.length n && sameU xs ys) (some [.ret (.bool (.lit true)) H nl cs]) none
  | _, _ => none) none
 | _ => none
theorem hkEqA_ok {P : Program} {β : Base} {t e : TypeId} {n : Nat} (ht : P.underlying t = some (.array n e)) (he : P.underlying e = some (.int .u64)) (hi : (P.info? e).map (·.size) = some 1) (hg : P.eqGuardType P.depth t = false) : HookOk P β (hkEqA t n) := by
 intro o ev H nl cs ls ρ w f h hev hh hc _
 unfold hkEqA at h
 split at h
 rotate_left
 · cases h
 rename_i t' x y gg ho
 cases hb : Nat.beq t' t with
 | false => rw [hb] at h; cases h
 | true =>
  rw [hb] at h; simp only [cond_true] at h
  obtain rfl := Nat.eq_of_beq_eq_true hb
  split at h
  rotate_left
  · cases h
  rename_i xs ys hx hy
  cases hb : (Nat.beq xs.length n && sameU xs ys) with
  | false => rw [hb] at h; cases h
  | true =>
   rw [hb] at h; simp only [cond_true, Option.some.injEq] at h
   subst h
   simp only [Bool.and_eq_true] at hb
   have hn := Nat.eq_of_beq_eq_true hb.1
   have d1 := hev x _ hx
   have d2 := hev y _ hy
   simp only [AVal.den] at d1 d2
   obtain ⟨vx, hvx, hfx⟩ := Option.map_eq_some_iff.1 d1
   obtain ⟨vy, hvy, hfy⟩ := Option.map_eq_some_iff.1 d2
   obtain ⟨rfl, L, rfl⟩ := sameU_den hb.2 hvx hvy
   have hL : L.length = n := by
    have := AVal.denL_length hvx
    simp only [List.length_map] at this
    omega
   obtain ⟨i, hi1, hi2⟩ := Option.map_eq_some_iff.1 hi
   have hsz : ∀ w, (sizeOf e).run P w = .ok 1 w := fun w => by rw [run_size hi1, hi2]
   have hrun := run_equalIn_words (P := P) w 9998 t' e n ht he hsz L hL
   refine ⟨.bool true, w, .inl ?_, _, _, _, _, ρ, List.mem_cons_self, Env.Le.refl ρ, rfl, hh, hc⟩
   have hq : (do eqGuard .eql t' x y (f x) (f y); binOp .eql t' (f x) (f y) : Sem Value).run P w = .ok (.bool true) w := by
    rw [<- hfx, <- hfy]
    simp only [Sem.run_bind, run_eqGuard_agg w _ _ _ _ _ _ hg, Result.andThen_ok, run_eql_struct, hrun]
   simp only [execOp, ho, Sem.run_bind, Sem.run_pure] at hq ⊢
   rw [hq]; rfl
end Go.Vm
end
section
namespace Go.Proofs.Ytighjgmgpphohaa
open Go.Vm Go.Vm.Le Go.Vm.Mb
namespace Ar
def roJ : HB := ⟨.cells [iV 120, iV 121, iV 122, iV 123, uV 124, uV 105, uV 106, uV 107, uV 108, uV 109, uV 110, uV 111, uV 112, uV 113, .var 53, .var 52, iV 134, iV 135, iV 136, iV 137, iV 138, iV 139] 77 none, false⟩
def spEqF : SpG := fun args H nl cs => match args with
 | [.var a, .var b, .func (.func c) [] []] => cond (Nat.beq a 50 && (Nat.beq b 52 && Nat.beq c 49)) (some [.ret (.bool (.lit true)) H nl cs]) none
 | _ => none
def spSm : CallF := spLH [(51, spEqF)] (hkEqA 52 9)
end Ar
end Go.Proofs.Ytighjgmgpphohaa
end
section
namespace Go.Proofs.Ytighjgmgpphohaa
open Go.Vm Go.Vm.Le Go.Vm.Mb
namespace Ar
theorem und52 : Try.prog.underlying 52 = some (.array 9 32) := by kernel_rfl
theorem und32 : Try.prog.underlying 32 = some (.int .u64) := by kernel_rfl
theorem inf32 : (Try.prog.info? 32).map (·.size) = some 1 := by kernel_rfl
theorem grd52 : Try.prog.eqGuardType Try.prog.depth 52 = false := by kernel_rfl
def GT (bm bm2 : Nat) : GP := fun _ _ _ V _ => V 50 = .map (some bm) /\ V 52 = .map (some bm2)
theorem GT_keep (bm bm2 : Nat) : GKeep (GT bm bm2) := fun _ _ hV _ _ h => ⟨(hV 50).trans h.1, (hV 52).trans h.2⟩
theorem spEqF_ok {w : World} {bm bm2 : Nat} {es es' : Es} {F2 F3 : Nat -> Prop} (h2 : BlksIn es w bm F2) (h3 : BlksIn es' w bm2 F3) (hp : es'.Perm es) : SpGOk Try.prog ⟨w, noO, GT bm bm2⟩ 51 spEqF := by
 intro args H nl cs ls ρ w1 xs hr hx hh hc
 unfold spEqF at hr
 split at hr
 rotate_left
 · cases hr
 rename_i a b c
 cases hb : (Nat.beq a 50 && (Nat.beq b 52 && Nat.beq c 49)) with
 | false => rw [hb] at hr; cases hr
 | true =>
 rw [hb] at hr; simp only [cond_true, Option.some.injEq] at hr
 subst hr
 simp only [Bool.and_eq_true] at hb
 obtain rfl := Nat.eq_of_beq_eq_true hb.1
 obtain rfl := Nat.eq_of_beq_eq_true hb.2.1
 obtain rfl := Nat.eq_of_beq_eq_true hb.2.2
 have hg : GT bm bm2 ρ.I ρ.B ρ.S ρ.V ρ.F := hh.g
 have hfv : ∀ ρ : Env, (AVal.func (.func 49) [] []).den ρ = some (.func (.func 49) #[] #[]) := fun _ => rfl
 have hx2 : AVal.denL ρ [.var 50, .var 52, .func (.func 49) [] []] = some [ρ.V 50, ρ.V 52, .func (.func 49) #[] #[]] := rfl
 obtain rfl := Option.some.inj (hx.symm.trans hx2)
 rw [hg.1, hg.2]
 refine (eqf51 (frz hh h2 fun _ _ => id) (frz hh h3 fun _ _ => id) hp hfv).mono fun e w' ⟨he, hf⟩ => ?_
 exact ⟨_, he, _, _, _, _, ρ, List.mem_cons_self, Env.Le.refl ρ, rfl, hh.framed hf, hc⟩
theorem run_sm : ((run Try.prog [] spSm 4000 true 29 (entry Try.f29 (Try.f29.body.getD .ret) [.ptr 0 (.lit 0), .ptr 1 (.lit 0)] (ofP [(0, roI), (1, roJ)]) 2 [])).map fun ls => (ls.filterMap (sumMD gA [] (eR [.bool (.lit true)]) [])).all okR) = some true := by kernel_rfl
def envT (A : List Int) (b b2 bs bm bs2 bm2 : Nat) : Env :=
 ⟨fun i => if i < 120 then A.getD (i - 100) 0 else A.getD (i - 120) 0, fun _ => false, fun _ => default, fun i => if i = 50 then .map (some bm) else if i = 51 then .pointer (some ⟨bs, 0, none⟩) else if i = 52 then .map (some bm2) else .pointer (some ⟨bs2, 0, none⟩), fun i => if i = 0 then some b else if i = 1 then some b2 else none, FA⟩
theorem same29 {A : List Int} {most most2 : Int} {hi hi2 : Nat} {K K2 : List Int} {es es' : Es} {w : World} {b b2 : Nat} {F F' : Nat -> Prop} (s : ArenaIn A most hi K es w b F) (s2 : ArenaIn A most2 hi2 K2 es' w b2 F') (hp : es'.Perm es) :
 Calls Try.prog 29 #[.pointer (some ⟨b, 0, none⟩), .pointer (some ⟨b2, 0, none⟩)] w (fun e w' => e = .returned (.bool true) /\ Framed w w') := by
 obtain ⟨hl, c, fr, bs, bm, F1, F2, hb, hc, _, _, h2, _⟩ := s
 obtain ⟨_, c', fr', bs2, bm2, F3, F4, hb2, hc2, _, _, h3, _⟩ := s2
 obtain ⟨a0, a1, a2, a3, a4, a5, a6, a7, a8, a9, a10, a11, a12, a13, a14, a15, a16, a17, a18, a19, rfl⟩ := len20 hl
 have sz : ∀ {c : Array Value} {x y : Value}, c.toList = arenaC [a0, a1, a2, a3, a4, a5, a6, a7, a8, a9, a10, a11, a12, a13, a14, a15, a16, a17, a18, a19] x y -> c.size = 22 := fun h => by
  have := congrArg List.length h
  simpa [arenaC] using this
 have hh : HRel ⟨w, noO, GT bm bm2⟩ (envT [a0, a1, a2, a3, a4, a5, a6, a7, a8, a9, a10, a11, a12, a13, a14, a15, a16, a17, a18, a19] b b2 bs bm bs2 bm2) (ofP [(0, roI), (1, roJ)]) 2 w := by
  refine HRel.ro [(0, roI.k), (1, roJ.k)] (fun p hp' => ?_) (fun i hi => ?_) ⟨rfl, rfl⟩
  · simp only [List.mem_cons, List.not_mem_nil, or_false] at hp'
    rcases hp' with rfl | rfl
    · exact ⟨b, _, rfl, hb, _, c, fr, rfl, rfl, by rw [hc]; exact List.prefix_refl _, sz hc, fun e => by cases e⟩
    · exact ⟨b2, _, rfl, hb2, _, c', fr', rfl, rfl, by rw [hc2]; exact List.prefix_refl _, sz hc2, fun e => by cases e⟩
  · show (if i = 0 then some b else if i = 1 then some b2 else none) = none
    rw [if_neg (by omega), if_neg (by omega)]
 have hsp : CallOk Try.prog ⟨w, noO, GT bm bm2⟩ spSm := spLH_ok (fun p hp' => by rw [List.mem_singleton.1 hp']; exact spEqF_ok h2 h3 hp) (hkEqA_ok und52 und32 inf32 grd52)
 refine (call_R (us := [.bool (.lit true)]) noExt hsp Try.func29 rfl run_sm (xs := [.pointer (some ⟨b, 0, none⟩), .pointer (some ⟨b2, 0, none⟩)]) rfl hh (CRel_nil.2 trivial) (GT_keep bm bm2)).mono fun e w' ⟨v, he, hf, u, hu, ρ, hd⟩ => ⟨?_, hf⟩
 rw [List.mem_singleton.1 hu] at hd
 rw [he, <- Option.some.inj hd]
end Ar
end Go.Proofs.Ytighjgmgpphohaa
end
section
namespace Go.Proofs.Ytighjgmgpphohaa
open Go.Vm Go.Vm.Le Go.Vm.Mb
namespace Ar
def spN : CallF := spLH [(39, Lp.spNew)] (hkMake 75)
def uNew : AVal := .tuple [.ptr 0 (.lit 0), .int .i64 (.lit 0)]
def csN : Cs := [(.cmp .lss (.lit 65535) (.lit 0), false), (.cmp .gtr (.lit 65535) (.lit 65535), false)]
def okN : LM -> Bool
 | .done 0 [] σ => σ.V.isEmpty && σ.I.all fun p => Nat.ble 200 p.1
 | _ => false
theorem spN_ok (w : World) : CallOk Try.prog ⟨w, noO, GAr⟩ spN := by
 refine spLH_ok (fun p hp => ?_) hkMake_ok
 rw [List.mem_singleton.1 hp]
 exact Lp.spNew_ok
theorem new_run : ((run Try.prog [] spN 4000 true 7 (entry Try.f7 (Try.f7.body.getD .ret) [.int .i64 (.lit 60000)] .leaf 0 csN)).map fun ls => (ls.filterMap (sumMD gA [] (eA uNew) [])).all okN) = some true := by kernel_rfl
def NewA (w w' : World) (b : Nat) : Prop := Framed w w' /\ ∃ F', SomeA w' b F' /\ ∀ y, F' y -> w.heap.size <= y
theorem newA7 (w : World) : Calls Try.prog 7 #[.int .i64 60000] w (fun e w' => ∃ b, e = .returned (.tuple #[.pointer (some ⟨b, 0, none⟩), .int .i64 0]) /\ NewA w w' b) := by
 let ρ : Env := ⟨fun _ => 0, fun _ => false, fun _ => default, fun _ => undef, fun _ => none, FA⟩
 have hh : HRel ⟨w, noO, GAr⟩ ρ .leaf 0 w := HRel.startG w ρ (fun _ => rfl) FA_ok
 obtain ⟨ls, hls, hall⟩ := Option.map_eq_some_iff.1 new_run
 refine (calls_sumsE (β := ⟨w, noO, GAr⟩) (R := fun x w' => ∃ b, x = .tuple #[.pointer (some ⟨b, 0, none⟩), .int .i64 0] /\ NewA w w' b) (g := gA) (L := []) (Rs := eA uNew) (Ts := []) (pl := true) (n := 4000) (c := Try.f7.body.getD .ret) (cs := csN) noCount noExt (spN_ok w) follows Try.func7 rfl (by rw [hls]; rfl) (xs := [.int .i64 60000]) rfl hh (c1 rfl (c1 rfl (CRel_nil.2 trivial))) fun s hs => ?_).mono fun e w' ⟨v, he, b, hv, hn⟩ => ⟨b, by rw [he, hv], hn⟩
 have hk := List.all_eq_true.1 hall s hs
 unfold okN at hk
 split at hk
 · rename_i σ
   refine doneR (T := ⟨[(0, uNew)], 1, hA, 5, [], 0⟩) rfl fun ρ' hle hG => ⟨hG, CRel_nil.2 trivial, fun x w' r => ?_⟩
   obtain ⟨y, hy, he⟩ := r.t 0 uNew rfl
   obtain rfl : x = y := Option.some.inj he
   obtain ⟨b, o, hN, _⟩ := r.h.blk 0 arB rfl
   have hx : uNew.den (σ.app ρ') = some (.tuple #[.pointer (some ⟨b, 0, none⟩), .int .i64 0]) := by
    simp only [uNew, AVal.den, AVal.denL, hN]; rfl
   obtain ⟨F', most, hi, K, es, hst, _, _, hA⟩ := end_A2 (F := noO) r.h hN
   exact ⟨b, Option.some.inj (hy.symm.trans hx), Framed.of r.h, F', ⟨_, most, hi, K, es, hA⟩, fun y hy => (hst.sub y hy).elim (fun e => by cases e) id⟩
 · cases hk
end Ar
end Go.Proofs.Ytighjgmgpphohaa
end
