/- Arenas (8): Clone of an arena: plainly; what is known of the names. -/
import Derived.Test.YtighjgmgpphohaaAr7
section
namespace Go.Proofs.Ytighjgmgpphohaa
open Go.Vm Go.Vm.Le Go.Vm.Mb
namespace Ar
def entB (kb : Kb) (es : Es) (n : Nat) : Int × List Int := (getK kb n, (getE es (getK kb n)).getD [])
section
variable {β : Base} {v ci si : Nat} (R : Fr β v ci si)
theorem Fr_nodup : (R.m.toList.map (·.born)).Nodup := by
 obtain ⟨_, _, m, cl, _, _, h1, hb, _⟩ := R.bl
 have := h1.symm.trans R.at0
 simp only [Option.some.injEq, Obj.map.injEq] at this
 rw [<- this.1]; exact hb.2
theorem getE_self : ∀ {es : Es}, (es.map (·.1)).Nodup -> ∀ p ∈ es, (p.1, (getE es p.1).getD []) = p := by
 intro es hn p hp
 cases hq : getE es p.1 with
 | none => exact absurd rfl (getE_none hq p hp)
 | some L =>
  have h5 := getE_mem hq
  have aux : ∀ {es : Es} {k : Int} {L M : List Int}, (es.map (·.1)).Nodup -> (k, L) ∈ es -> (k, M) ∈ es -> L = M := fun {es k L M} hn h1 h2 => by
   induction es with
   | nil => cases h1
   | cons x r ih =>
    simp only [List.map_cons, List.nodup_cons] at hn
    rcases List.mem_cons.1 h1 with e1 | h1
    · rcases List.mem_cons.1 h2 with e2 | h2
      · rw [<- e1] at e2; exact (Prod.mk.inj e2).2.symm
      · exact absurd (by rw [<- e1]; exact List.mem_map.2 ⟨_, h2, rfl⟩) hn.1
    · rcases List.mem_cons.1 h2 with e2 | h2
      · exact absurd (by rw [<- e2]; exact List.mem_map.2 ⟨_, h1, rfl⟩) hn.1
      · exact ih hn.2 h1 h2
  have : L = p.2 := aux hn h5 hp
  rw [Option.getD_some, this]
theorem Fr_es : (R.m.toList.map (·.born)).map (entB (kbOf R.m) R.es) = R.es := by
 obtain ⟨hn, _, m, cl, ad, cap, h1, hb, hm, _⟩ := R.bl
 obtain ⟨rfl, rfl⟩ : m = R.m /\ cl = R.cl := by
  have := h1.symm.trans R.at0
  simp only [Option.some.injEq, Obj.map.injEq] at this
  exact this
 have hk : R.m.toList.map (fun e => getK (kbOf R.m) (e.born : Int)) = R.es.map (·.1) := by
  have h2 : R.m.toList.map (fun e => e.key) = R.es.map fun p => Value.int .i64 p.1 := by
   have := congrArg (List.map Prod.fst) hm
   simpa only [List.map_map, Function.comp_def, kvE, valB] using this
  apply List.ext_getElem?
  intro i
  have h3 := congrArg (fun l => l[i]?) h2
  simp only [List.getElem?_map] at h3 ⊢
  cases he : R.m.toList[i]? with
  | none =>
   rw [he] at h3
   cases hq : R.es[i]? with
   | none => rfl
   | some p => rw [hq] at h3; cases h3
  | some e =>
   rw [he] at h3
   cases hq : R.es[i]? with
   | none => rw [hq] at h3; cases h3
   | some p =>
    rw [hq] at h3
    simp only [Option.map_some, Option.some.injEq] at h3 ⊢
    exact getK_at hb (List.mem_of_getElem? he) h3
 rw [List.map_map]
 have h4 : R.m.toList.map (entB (kbOf R.m) R.es ∘ fun e => e.born) = (R.m.toList.map fun e => getK (kbOf R.m) (e.born : Int)).map fun k => (k, (getE R.es k).getD []) := by
  rw [List.map_map]; rfl
 rw [h4, hk, List.map_map]
 conv => rhs; rw [<- List.map_id R.es]
 exact List.map_congr_left fun p hp => getE_self hn p hp
theorem inj_of_nodup {α γ : Type} {f : α -> γ} : ∀ {l : List α}, (l.map f).Nodup -> ∀ a ∈ l, ∀ b ∈ l, f a = f b -> a = b
 | [], _, a, ha, _, _, _ => by cases ha
 | x :: r, hn, a, ha, b, hb, e => by
  simp only [List.map_cons, List.nodup_cons] at hn
  rcases List.mem_cons.1 ha with ha2 | ha2
  · rcases List.mem_cons.1 hb with hb2 | hb2
    · rw [ha2, hb2]
    · exact absurd (by rw [<- ha2, e]; exact List.mem_map.2 ⟨b, hb2, rfl⟩) hn.1
  · rcases List.mem_cons.1 hb with hb2 | hb2
    · exact absurd (by rw [<- hb2, <- e]; exact List.mem_map.2 ⟨a, ha2, rfl⟩) hn.1
    · exact inj_of_nodup hn.2 a ha2 b hb2 e
theorem Fr_inj : ∀ a : Nat, a ∈ R.m.toList.map (·.born) -> ∀ b : Nat, b ∈ R.m.toList.map (·.born) -> getK (kbOf R.m) (a : Int) = getK (kbOf R.m) (b : Int) -> a = b := by
 refine inj_of_nodup (f := fun n : Nat => getK (kbOf R.m) (n : Int)) ?_
 have h := congrArg (List.map Prod.fst) (Fr_es R)
 rw [List.map_map] at h
 have h2 : (R.m.toList.map (·.born)).map (fun n : Nat => getK (kbOf R.m) (n : Int)) = R.es.map (·.1) := h
 rw [h2]; exact R.bl.nodup
theorem put_next {sn : List Nat} {n : Nat} (h1 : ∀ k ∈ sn, k ∈ R.m.toList.map (·.born)) (hn : n ∈ R.m.toList.map (·.born)) (hns : n ∉ sn) :
 putE (sn.map (entB (kbOf R.m) R.es)) (getK (kbOf R.m) n) (((getE R.es (getK (kbOf R.m) n)).getD []).headD 0 :: ((getE R.es (getK (kbOf R.m) n)).getD []).tail) = (sn ++ [n]).map (entB (kbOf R.m) R.es) := by
 have hnew : getE (sn.map (entB (kbOf R.m) R.es)) (getK (kbOf R.m) n) = none := by
  cases hq : getE (sn.map (entB (kbOf R.m) R.es)) (getK (kbOf R.m) n) with
  | none => rfl
  | some L =>
   exfalso
   obtain ⟨k, hk, he⟩ := List.mem_map.1 (getE_mem hq)
   have h3 : getK (kbOf R.m) (k : Int) = getK (kbOf R.m) (n : Int) := (Prod.mk.inj he).1
   exact hns (Fr_inj R k (h1 k hk) n hn h3 ▸ hk)
 rw [putE_new hnew, List.map_append]
 congr 1
 obtain ⟨e, he, rfl⟩ := List.mem_map.1 hn
 obtain ⟨k, L, _, _, _, hgk, _, hgE, _, _, _, _, hL, _⟩ := R.entry he
 rw [hgk, hgE]
 simp only [List.map_cons, List.map_nil, entB, hgk, hgE, Option.getD_some]
 cases L with
 | nil => simp at hL
 | cons a r => rfl
theorem all_come {sn : List Nat} (h1 : ∀ k ∈ sn, k ∈ R.m.toList.map (·.born)) (h2 : sn.Nodup) (h3 : ∀ k ∈ R.m.toList.map (·.born), k ∈ sn) : (sn.map (entB (kbOf R.m) R.es)).Perm R.es := by
 have hp : sn.Perm (R.m.toList.map (·.born)) := (List.perm_ext_iff_of_nodup h2 (Fr_nodup R)).2 fun a => ⟨h1 a, h3 a⟩
 have := hp.map (entB (kbOf R.m) R.es)
 rwa [Fr_es] at this
end
end Ar
end Go.Proofs.Ytighjgmgpphohaa
end
section
namespace Go.Proofs.Ytighjgmgpphohaa
open Go.Vm Go.Vm.Le Go.Vm.Mb
namespace Ar
def FC (bm cl : Nat) (kb : Kb) : Nat -> Int -> Int -> Int := fun k => if k = 66 then fKey kb else if k = 67 then fOk kb else if k = 68 then fAll kb else if k = 69 then fPre bm cl else FA k
def GC (bm cl bs : Nat) (es : Es) (m : Array MapEntry) (sc : Int) : GP := fun I B S V F => (Lp.GLp I B S V F /\ GMb I B S V F /\ GRg bm cl (kbOf m) I B S V F) /\ V 50 = .map (some bm) /\ V 51 = .pointer (some ⟨bs, 0, none⟩) /\ I 90 = codeE es /\ I 93 = sc /\ I 95 = encL [(bm : Int), (cl : Int), (cl : Int)]
theorem GC_keep (bm cl bs : Nat) (es : Es) (m : Array MapEntry) (sc : Int) : GKeep (GC bm cl bs es m sc) := fun ρ ρ' hV hI hF h => by
 obtain ⟨h1, h2, h3, h4, h5, h6⟩ := h
 refine ⟨?_, (hV 50).trans h2, (hV 51).trans h3, (hI 90 (by decide)).trans h4, (hI 93 (by decide)).trans h5, (hI 95 (by decide)).trans h6⟩
 unfold Lp.GLp GMb GRg at h1 ⊢
 rw [hF]; exact h1
def envC (A : List Int) (es : Es) (m : Array MapEntry) (sc : Int) (b bs bm cl : Nat) : Env :=
 ⟨fun i => if i = 90 then codeE es else if i = 93 then sc else if i = 95 then encL [(bm : Int), (cl : Int), (cl : Int)] else A.getD (i - 100) 0, fun _ => false, fun _ => default, fun i => if i = 50 then .map (some bm) else .pointer (some ⟨bs, 0, none⟩), fun i => if i = 0 then some b else none, FC bm cl (kbOf m)⟩
theorem start_C {A : List Int} {es : Es} {w : World} {b bs bm cl : Nat} {c : Array Value} {fr : Nat × Nat} {m : Array MapEntry} {sc : Int} (hl : A.length = 20) (hb : w.heap[b]? = some (.cells c 77 fr)) (hc : c.toList = arenaC A (.pointer (some ⟨bs, 0, none⟩)) (.map (some bm))) :
 HRel ⟨w, noO, GC bm cl bs es m sc⟩ (envC A es m sc b bs bm cl) (ofP [(0, roI)]) 1 w := by
 obtain ⟨a0, a1, a2, a3, a4, a5, a6, a7, a8, a9, a10, a11, a12, a13, a14, a15, a16, a17, a18, a19, rfl⟩ := len20 hl
 have hsize : c.size = 22 := by
  have := congrArg List.length hc
  simpa [arenaC] using this
 refine HRel.ro [(0, roI.k)] (fun p hp => ?_) (fun i hi => ?_) ⟨⟨⟨rfl, rfl, rfl, rfl, rfl, rfl, rfl, rfl⟩, ⟨rfl, rfl, rfl, rfl, rfl, rfl⟩, rfl, rfl, rfl, rfl⟩, rfl, rfl, rfl, rfl, rfl⟩
 · rw [List.mem_singleton.1 hp]
   exact ⟨b, _, rfl, hb, _, c, fr, rfl, rfl, by rw [hc]; exact List.prefix_refl _, hsize, fun e => by cases e⟩
 · show (if i = 0 then some b else none) = none
   rw [if_neg (by omega)]
theorem spCloV_ok {β : Base} {v ci bs : Nat} {most : Int} {hi : Nat} {K : List Int} {F1 : Nat -> Prop} (hs : StockIn β.w0 bs F1 most hi K) (hno : ∀ y, F1 y -> ¬ β.own y) (hp : ∀ I B S V F, β.G I B S V F -> V v = .pointer (some ⟨bs, 0, none⟩) /\ I ci = encL (most :: (hi : Int) :: K)) : SpGOk Try.prog β 48 (spCloV v ci) := by
 intro args H nl cs ls ρ w xs hr hx hh hc
 unfold spCloV at hr
 split at hr
 rotate_left
 · cases hr
 rename_i v'
 cases hv : Nat.beq v' v with
 | false => rw [hv] at hr; cases hr
 | true =>
  rw [hv] at hr; simp only [cond_true, Option.some.injEq] at hr
  obtain rfl := Nat.eq_of_beq_eq_true hv
  subst hr
  obtain ⟨hV, hI⟩ := hp _ _ _ _ _ hh.g
  simp only [AVal.denL, AVal.den, hV, Option.some.injEq] at hx
  subst hx
  have s : StockIn w bs F1 most hi K := hs.local fun y hy => hh.frame y (hs.lt hy) (hno y hy)
  refine (Lp.clone13 s).mono fun e w' ⟨b', he, ⟨F', s', hF'⟩, hf⟩ => ?_
  have hh' := hh.bigNew hf (k := 0) (b := b') (c := .var ci) (F := F') (fam0 s') hF' (congrArg some hI)
  have hle := Env.le_put (b := b') (hh.fresh nl (Nat.le_refl _))
  exact ⟨_, he, _, _, _, _, _, List.mem_cons_self, hle, by simp only [AVal.den, Env.put_same]; rfl, hh', hc.mono hle⟩
def frC {w : World} {bm cl bs : Nat} {es : Es} {m : Array MapEntry} {sc : Int} {F2 : Nat -> Prop} (h2 : BlksIn es w bm F2) (hm : w.heap[bm]? = some (.map m cl)) : Fr ⟨w, noO, GC bm cl bs es m sc⟩ 50 90 95 :=
 ⟨bm, es, F2, m, cl, h2, fun _ _ => id, hm, fun I B S V F' h => by
  have h1 : GC bm cl bs es m sc I B S V F' := h
  exact ⟨h1.2.1, h1.2.2.2.1, h1.2.2.2.2.2, h1.1.2.2, h1.1.2.1⟩⟩
theorem inf77 : (Try.prog.info? 77).map (·.size) = some 22 := by kernel_rfl
theorem spC_ok {w : World} {bm cl bs : Nat} {es : Es} {m : Array MapEntry} {most : Int} {hi : Nat} {K : List Int} {F1 F2 : Nat -> Prop} (h1 : StockIn w bs F1 most hi K) (h2 : BlksIn es w bm F2) (hm : w.heap[bm]? = some (.map m cl)) :
 CallOk Try.prog ⟨w, noO, GC bm cl bs es m (encL (most :: (hi : Int) :: K))⟩ spC := by
 refine spLH_ok (fun p hp => ?_) (orH_ok (hkSt_ok inf77 fun I B S V F' h => ?_) (orH_ok (hkRange_ok und75 (frC h2 hm)) (orH_ok (hkNext_ok (frC h2 hm)) (orH_ok (hkEntry_ok (frC h2 hm)) (orH_ok (hkPut_ok und75 und3 fun I B S V F' h => ?_) hkMake_ok)))))
 · simp only [List.mem_cons, List.not_mem_nil, or_false] at hp
   rcases hp with rfl | rfl
   · refine spCloV_ok h1 (fun _ _ => id) fun I B S V F' h => ?_
     have h3 : GC bm cl bs es m (encL (most :: (hi : Int) :: K)) I B S V F' := h
     exact ⟨h3.2.2.1, h3.2.2.2.2.1⟩
   · exact Pc.sp43_ok
 · have h3 : GC bm cl bs es m (encL (most :: (hi : Int) :: K)) I B S V F' := h
   rw [h3.2.1, h3.2.2.1]; exact ⟨rfl, rfl⟩
 · have h3 : GC bm cl bs es m (encL (most :: (hi : Int) :: K)) I B S V F' := h
   exact h3.1.2.1
noncomputable def cb0 : Code := ((loopsOf (Try.f28.body.getD .ret) []).getD 0 (.ret, [])).1
noncomputable def ck0 : List Item := ((loopsOf (Try.f28.body.getD .ret) []).getD 0 (.ret, [])).2
noncomputable def sums_ce : List LM := [.next 0 (.code (.loop cb0) :: ck0) [] ⟨[(200, (.var 100)), (201, (.var 101)), (202, (.var 102)), (203, (.var 103)), (204, (.var 104)), (205, (.var 105)), (206, (.var 106)), (207, (.var 107)), (208, (.var 108)), (209, (.var 109)), (210, (.var 110)), (211, (.var 111)), (212, (.var 112)), (213, (.var 113)), (214, (.var 114)), (215, (.var 115)), (216, (.var 116)), (217, (.var 117)), (218, (.var 118)), (219, (.var 119)), (220, (.var 93)), (221, (.lit 0)), (222, (.var 95))], [], [], [], [(0, 1), (3, 4), (1, 2), (2, 3)]⟩]
abbrev qar12x0 : BT × Bool := ((.cmp .eql (.fn 69 (.var 222) (.lit 0)) (.lit 1)), true)
noncomputable def sums_cr : List LM := [.done 0 [((.cmp .eql (.fn 68 (.var 222) (.lit 0)) (.lit 1)), true), qar12x0] ⟨[(200, (.var 200)), (201, (.var 201)), (202, (.var 202)), (203, (.var 203)), (204, (.var 204)), (205, (.var 205)), (206, (.var 206)), (207, (.var 207)), (208, (.var 208)), (209, (.var 209)), (210, (.var 210)), (211, (.var 211)), (212, (.var 212)), (213, (.var 213)), (214, (.var 214)), (215, (.var 215)), (216, (.var 216)), (217, (.var 217)), (218, (.var 218)), (219, (.var 219)), (220, (.var 220)), (221, (.var 221))], [], [], [], [(0, 0), (1, 1), (2, 2)]⟩,
 .next 0 (.inLoop cb0 :: ck0) [((.cmp .eql (.fn 62 (.var 90) (.fn 66 (.nv 5) (.lit 0))) (.lit 0)), false), ((.cmp .gtr (.fn 62 (.var 90) (.fn 66 (.nv 5) (.lit 0))) (.lit 2048)), false), ((.cmp .geq (.fn 62 (.var 90) (.fn 66 (.nv 5) (.lit 0))) (.lit 1)), true), ((.cmp .leq (.fn 62 (.var 90) (.fn 66 (.nv 5) (.lit 0))) (.lit 1000000)), true), ((.cmp .eql (.fn 60 (.var 90) (.fn 66 (.nv 5) (.lit 0))) (.lit 1)), true), ((.cmp .eql (.fn 67 (.var 222) (.nv 5)) (.lit 1)), true), ((.cmp .geq (.nv 5) (.lit 0)), true), ((.cmp .eql (.fn 68 (.var 222) (.lit 0)) (.lit 1)), false), qar12x0] ⟨[(200, (.var 200)), (201, (.var 201)), (202, (.var 202)), (203, (.var 203)), (204, (.var 204)), (205, (.var 205)), (206, (.var 206)), (207, (.var 207)), (208, (.var 208)), (209, (.var 209)), (210, (.var 210)), (211, (.var 211)), (212, (.var 212)), (213, (.var 213)), (214, (.var 214)), (215, (.var 215)), (216, (.var 216)), (217, (.var 217)), (218, (.var 218)), (219, (.var 219)), (220, (.var 220)), (221, (.fn 64 (.var 221) (.un 3 (.un 1 (.fn 66 (.nv 5) (.lit 0)) (.fn 61 (.var 90) (.fn 66 (.nv 5) (.lit 0)))) (.fn 63 (.var 90) (.fn 66 (.nv 5) (.lit 0)))))), (222, (.un 3 (.var 222) (.nv 5)))], [], [], [], [(0, 0), (3, 3), (1, 1), (2, 2)]⟩]
def eC : List Tpl := eA (.ptr 0 (.lit 0))
theorem run_ce : (run Try.prog [] spC 4000 true 28 (entry Try.f28 (Try.f28.body.getD .ret) [me] (ofP [(0, roI)]) 1 [])).map (·.filterMap (sumMO gA [] eC [tC])) = some sums_ce := by kernel_rfl
theorem run_cr : (run Try.prog [] spC 4000 true 28 (tC.st (.code cb0 :: .inLoop cb0 :: ck0))).map (·.filterMap (sumMO gA [] eC [tC])) = some sums_cr := by kernel_rfl
end Ar
end Go.Proofs.Ytighjgmgpphohaa
end
section
namespace Go.Proofs.Ytighjgmgpphohaa
open Go.Vm Go.Vm.Le Go.Vm.Mb
namespace Ar
def ints (ρ : Env) : List Int := [ρ.I 200, ρ.I 201, ρ.I 202, ρ.I 203, ρ.I 204, ρ.I 205, ρ.I 206, ρ.I 207, ρ.I 208, ρ.I 209, ρ.I 210, ρ.I 211, ρ.I 212, ρ.I 213, ρ.I 214, ρ.I 215, ρ.I 216, ρ.I 217, ρ.I 218, ρ.I 219]
theorem ints_eq (ρ : Env) : (List.range 20).map (fun i => ρ.I (200 + i)) = ints ρ := rfl
structure JC (A : List Int) (sc : Int) (bm cl : Nat) (es : Es) (m : Array MapEntry) (sn : List Nat) (ρ : Env) : Prop where
 a : ints ρ = A
 s : ρ.I 220 = sc
 c : ρ.I 222 = encL ((bm : Int) :: (cl : Int) :: (cl : Int) :: sn.map Int.ofNat)
 o : ρ.I 221 = codeE (sn.map (entB (kbOf m) es))
 n : sn.Nodup
 i : ∀ k ∈ sn, k ∈ m.toList.map (·.born)
def RCl (w : World) (A : List Int) (most : Int) (hi : Nat) (K : List Int) (es : Es) : Value -> World -> Prop := fun x w' => ∃ b', x = .pointer (some ⟨b', 0, none⟩) /\ Framed w w' /\ ∃ F' es', es'.Perm es /\ ArenaIn A most hi K es' w' b' F' /\ ∀ y, F' y -> w.heap.size <= y
theorem end_C {w : World} {A : List Int} {most : Int} {hi : Nat} {K : List Int} {es es' : Es} {G : GP} {ρ : Env} {x : Value} {w' : World} (r : SRel ⟨w, noO, G⟩ ρ ((⟨[(0, .ptr 0 (.lit 0))], 1, hA, 5, [], 0⟩ : Tpl).st []) ⟨#[x], []⟩ w') (ha : ints ρ = A) (hs : ρ.I 220 = encL (most :: (hi : Int) :: K)) (ho : ρ.I 221 = codeE es') (hp : es'.Perm es) : RCl w A most hi K es x w' := by
 obtain ⟨y, hy, he⟩ := r.t 0 (.ptr 0 (.lit 0)) rfl
 obtain rfl : x = y := Option.some.inj he
 obtain ⟨b', hx, hN⟩ := den_ptr0 hy
 obtain ⟨F', most', hi', K', es2, hst, h220, h221, hA⟩ := end_A2 (F := noO) r.h hN
 rw [ints_eq, ha] at hA
 have e1 := encL_inj (hs.symm.trans h220)
 simp only [List.cons.injEq] at e1
 obtain ⟨rfl, e2, rfl⟩ := e1
 obtain rfl : hi = hi' := Int.ofNat.inj e2
 obtain rfl := codeE_inj (ho.symm.trans h221)
 exact ⟨b', hx, Framed.of r.h, F', es', hp, hA, fun y hy => (hst.sub y hy).elim (fun e => by cases e) id⟩
theorem len_sub : ∀ {l r : List Nat}, l.Nodup -> (∀ k ∈ l, k ∈ r) -> l.length <= r.length
 | [], _, _, _ => Nat.zero_le _
 | a :: l, r, hn, hs => by
  rw [List.nodup_cons] at hn
  have ha := hs a List.mem_cons_self
  have h1 : l.length <= (r.erase a).length := len_sub hn.2 fun k hk => (List.mem_erase_of_ne (fun e : k = a => hn.1 (e ▸ hk))).2 (hs k (List.mem_cons_of_mem _ hk))
  rw [List.length_erase_of_mem ha] at h1
  have := List.length_pos_of_mem ha
  simp only [List.length_cons]
  omega
theorem loop_C {w : World} {A : List Int} {most : Int} {hi : Nat} {K : List Int} {es : Es} {bs bm cl : Nat} {m : Array MapEntry} {F1 F2 : Nat -> Prop} (h1 : StockIn w bs F1 most hi K) (h2 : BlksIn es w bm F2) (hm : w.heap[bm]? = some (.map m cl)) :
 ∀ ρ, (∃ sn, JC A (encL (most :: (hi : Int) :: K)) bm cl es m sn ρ) -> ∀ todo a w', todo = .inLoop cb0 :: ck0 ∨ todo = .code (.loop cb0) :: ck0 -> SRel ⟨w, noO, GC bm cl bs es m (encL (most :: (hi : Int) :: K))⟩ ρ (tC.st todo) a w' -> Goes Try.prog 28 (RCl w A most hi K es) todo a w' := by
 refine loop_goesO (β := ⟨w, noO, GC bm cl bs es m (encL (most :: (hi : Int) :: K))⟩) noCount noExt (spC_ok h1 h2 hm) follows run_cr (fun ρ => ∃ sn, JC A (encL (most :: (hi : Int) :: K)) bm cl es m sn ρ) (fun ρ => m.size + 3 - (decL (ρ.I 222)).length) (fun ρ hJ hcs hG ih s hs => ?_)
 obtain ⟨sn, j⟩ := hJ
 have R := frC (cl := cl) (bs := bs) (sc := encL (most :: (hi : Int) :: K)) h2 hm
 have hR : R = frC (cl := cl) (bs := bs) (sc := encL (most :: (hi : Int) :: K)) h2 hm -> True := fun _ => trivial
 clear hR R
 have hG0 : GC bm cl bs es m (encL (most :: (hi : Int) :: K)) ρ.I ρ.B ρ.S ρ.V ρ.F := hG
 obtain ⟨⟨_, ⟨g60, g61, g62, g63, g64, _⟩, g66, g67, g68, g69⟩, _, _, i90, _, _⟩ := hG0
 have hdr : (decL (ρ.I 222)).drop 3 = sn.map Int.ofNat := by rw [j.c, decL_encL]; rfl
 have hln : (decL (ρ.I 222)).length = sn.length + 3 := by rw [j.c, decL_encL]; simp
 have con : ∀ n : Nat, (sn.map Int.ofNat).contains (n : Int) = true ↔ n ∈ sn := fun n => by
  rw [List.contains_iff_mem]
  constructor
  · intro h
    obtain ⟨k, hk, e⟩ := List.mem_map.1 h
    have : k = n := Int.ofNat.inj e
    rw [<- this]; exact hk
  · intro h; exact List.mem_map.2 ⟨n, h, rfl⟩
 simp only [sums_cr, List.mem_cons, List.not_mem_nil, or_false] at hs
 rcases hs with rfl | rfl
 · -- done
   refine ⟨trivial, fun ρ' hle hc T hT hG' => ?_⟩
   have hT : (⟨[(0, .ptr 0 (.lit 0))], 1, hA, 5, [], 0⟩ : Tpl) = T := Option.some.inj hT
   subst hT
   simp only [CRel_cons, CRel_nil, and_true] at hc
   have hall : fAll (kbOf m) (ρ.I 222) 0 = 1 := by
    have h3 := hc.1
    have e1 : (IT.fn 68 (.var 222) (.lit 0)).den ρ' = some (fAll (kbOf m) (ρ.I 222) 0) := by rw [fnD (x := ρ.I 222) (by show some (ρ'.I 222) = _; rw [hle.i]) (litD 0), hle.f, g68]
    rw [cmpD e1 (litD 1)] at h3
    simpa [intCmp] using h3
   have hin : ∀ k ∈ m.toList.map (·.born), k ∈ sn := fun k hk => by
    unfold fAll at hall
    split at hall
    · rename_i h4
      obtain ⟨e, he, rfl⟩ := List.mem_map.1 hk
      have h5 := List.all_eq_true.1 h4 _ (List.mem_map.2 ⟨e, he, rfl⟩)
      rw [hdr] at h5
      exact (con e.born).1 h5
    · cases hall
   have hperm : (sn.map (entB (kbOf m) es)).Perm es := all_come (frC (cl := cl) (bs := bs) (sc := encL (most :: (hi : Int) :: K)) h2 hm) j.i j.n hin
   refine ⟨keep_app (GC_keep _ _ _ _ _ _) rfl rfl hG', CRel_nil.2 trivial, fun x w' r => end_C r ?_ ?_ ?_ hperm⟩
   · show ints ρ' = A
     rw [<- j.a]; unfold ints; rw [hle.i]
   · show ρ'.I 220 = _
     rw [hle.i]; exact j.s
   · show ρ'.I 221 = _
     rw [hle.i]; exact j.o
 · -- one more
   refine ⟨trivial, fun ρ' hle hc T hT hG' => ?_⟩
   have hT : tC = T := Option.some.inj hT
   subst hT
   simp only [CRel_cons, CRel_nil, and_true] at hc
   obtain ⟨_, _, _, _, _, hok, hn5, _, _⟩ := hc
   obtain ⟨n, hn⟩ : ∃ n : Nat, ρ'.N 5 = some n := by
    cases h5 : ρ'.N 5 with
    | some n => exact ⟨n, rfl⟩
    | none =>
     exfalso
     simp only [BT.den, IT.den, h5, Option.map_none] at hn5
     cases hn5
   have d222 : (IT.var 222).den ρ' = some (ρ.I 222) := by show some (ρ'.I 222) = _; rw [hle.i]
   have d90 : (IT.var 90).den ρ' = some (codeE es) := by show some (ρ'.I 90) = _; rw [hle.i, i90]
   have hok1 : fOk (kbOf m) (ρ.I 222) (n : Int) = 1 := by
    have e1 : (IT.fn 67 (.var 222) (.nv 5)).den ρ' = some (fOk (kbOf m) (ρ.I 222) (n : Int)) := by rw [fnD d222 (nvD hn), hle.f, g67]
    rw [cmpD e1 (litD 1)] at hok
    simpa [intCmp] using hok
   have hbn : n ∈ m.toList.map (·.born) /\ n ∉ sn := by
    unfold fOk at hok1
    split at hok1
    · rename_i h4
      simp only [Bool.and_eq_true, Bool.not_eq_true'] at h4
      obtain ⟨e, he, hz⟩ := born_in h4.1
      have h6 : e.born = n := Int.ofNat.inj hz
      refine ⟨by rw [<- h6]; exact List.mem_map.2 ⟨e, he, rfl⟩, fun h7 => ?_⟩
      have h8 := h4.2
      rw [hdr, (con n).2 h7] at h8
      cases h8
    · cases hok1
   have ek : (IT.fn 66 (.nv 5) (.lit 0)).den ρ' = some (getK (kbOf m) n) := by rw [fnD (nvD hn) (litD 0), hle.f, g66]; rfl
   have e61 : (IT.fn 61 (.var 90) (.fn 66 (.nv 5) (.lit 0))).den ρ' = some (((getE es (getK (kbOf m) n)).getD []).headD 0) := by
    rw [fnD d90 ek, hle.f, g61]; simp only [fHnd, esOf_code]
   have e63 : (IT.fn 63 (.var 90) (.fn 66 (.nv 5) (.lit 0))).den ρ' = some (encL ((getE es (getK (kbOf m) n)).getD []).tail) := by
    rw [fnD d90 ek, hle.f, g63]; simp only [fRow, esOf_code]
   have d221 : (IT.var 221).den ρ' = some (codeE (sn.map (entB (kbOf m) es))) := by show some (ρ'.I 221) = _; rw [hle.i, j.o]
   have hput := put_next (frC (cl := cl) (bs := bs) (sc := encL (most :: (hi : Int) :: K)) h2 hm) j.i hbn.1 hbn.2
   have e64 : (IT.fn 64 (.var 221) (.un 3 (.un 1 (.fn 66 (.nv 5) (.lit 0)) (.fn 61 (.var 90) (.fn 66 (.nv 5) (.lit 0)))) (.fn 63 (.var 90) (.fn 66 (.nv 5) (.lit 0))))).den ρ' = some (codeE ((sn ++ [n]).map (entB (kbOf m) es))) := by
    rw [fnD d221 (unD (unD ek e61) e63), hle.f, g64]
    show some (fPut (codeE (sn.map (entB (kbOf m) es))) (encL (decL (encL [getK (kbOf m) n, ((getE es (getK (kbOf m) n)).getD []).headD 0]) ++ [encL ((getE es (getK (kbOf m) n)).getD []).tail]))) = _
    rw [decL_encL]
    simp only [fPut, esOf_code, decL_encL, List.cons_append, List.nil_append, List.getD_cons_zero, List.getD_cons_succ]
    exact congrArg (fun z => some (codeE z)) hput
   have e3 : (IT.un 3 (.var 222) (.nv 5)).den ρ' = some (encL ((bm : Int) :: (cl : Int) :: (cl : Int) :: (sn ++ [n]).map Int.ofNat)) := by
    rw [unD d222 (nvD hn)]
    show some (encL (decL (ρ.I 222) ++ [(n : Int)])) = _
    rw [j.c, decL_encL, List.map_append]; rfl
   have g1 : ∀ {t : IT} {z : Int}, t.den ρ' = some z -> (t.den ρ').getD 0 = z := fun h => by rw [h]; rfl
   have hlt : sn.length < m.size := by
    have hs : (sn ++ [n]).Nodup := List.nodup_append.2 ⟨j.n, by simp, fun a ha b hb e => hbn.2 (by rw [<- List.mem_singleton.1 hb, <- e]; exact ha)⟩
    have h8 : (sn ++ [n]).length <= (m.toList.map (·.born)).length := len_sub hs fun k hk => by
     rcases List.mem_append.1 hk with h | h
     · exact j.i k h
     · rw [List.mem_singleton.1 h]; exact hbn.1
    simp at h8
    omega
   refine ⟨keep_app (GC_keep _ _ _ _ _ _) rfl rfl hG', ?_, fun a w' r => ih _ ?_ ⟨sn ++ [n], ?_, ?_, g1 e3, g1 e64, ?_, ?_⟩ _ a w' (.inl rfl) r⟩
   · simp only [tC, csP, CRel_cons, CRel_nil, and_true]
     have e4 : (IT.var 222).den (Go.Vm.Sub.app ⟨[(200, (.var 200)), (201, (.var 201)), (202, (.var 202)), (203, (.var 203)), (204, (.var 204)), (205, (.var 205)), (206, (.var 206)), (207, (.var 207)), (208, (.var 208)), (209, (.var 209)), (210, (.var 210)), (211, (.var 211)), (212, (.var 212)), (213, (.var 213)), (214, (.var 214)), (215, (.var 215)), (216, (.var 216)), (217, (.var 217)), (218, (.var 218)), (219, (.var 219)), (220, (.var 220)), (221, (.fn 64 (.var 221) (.un 3 (.un 1 (.fn 66 (.nv 5) (.lit 0)) (.fn 61 (.var 90) (.fn 66 (.nv 5) (.lit 0)))) (.fn 63 (.var 90) (.fn 66 (.nv 5) (.lit 0)))))), (222, (.un 3 (.var 222) (.nv 5)))], [], [], [], [(0, 0), (3, 3), (1, 1), (2, 2)]⟩ ρ') = some (encL ((bm : Int) :: (cl : Int) :: (cl : Int) :: (sn ++ [n]).map Int.ofNat)) := congrArg some (g1 e3)
     unfold preT
     rw [cmpD (fnD e4 (litD 0)) (litD 1)]
     show (intCmp .eql (ρ'.F 69 _ 0) 1) = some true
     rw [hle.f, g69]
     unfold fPre
     rw [decL_encL, if_pos (show List.take 3 ((bm : Int) :: (cl : Int) :: (cl : Int) :: List.map Int.ofNat (sn ++ [n])) = [(bm : Int), (cl : Int), (cl : Int)] from rfl)]
     rfl
   · show m.size + 3 - (decL (((IT.un 3 (.var 222) (.nv 5)).den ρ').getD 0)).length < _
     rw [g1 e3, decL_encL, hln]
     simp
     omega
   · show ints ρ' = A
     rw [<- j.a]; unfold ints; rw [hle.i]
   · show ρ'.I 220 = _
     rw [hle.i]; exact j.s
   · exact List.nodup_append.2 ⟨j.n, by simp, fun a ha b hb e => hbn.2 (by rw [<- List.mem_singleton.1 hb, <- e]; exact ha)⟩
   · intro k hk
     rcases List.mem_append.1 hk with h | h
     · exact j.i k h
     · rw [List.mem_singleton.1 h]; exact hbn.1
theorem clone28 {A : List Int} {most : Int} {hi : Nat} {K : List Int} {es : Es} {w : World} {b : Nat} {F : Nat -> Prop} (s : ArenaIn A most hi K es w b F) :
 Calls Try.prog 28 #[.pointer (some ⟨b, 0, none⟩)] w (fun e w' => ∃ x, e = .returned x /\ RCl w A most hi K es x w') := by
 obtain ⟨hl, c, fr, bs, bm, F1, F2, hb, hc, hf, h1, h2, n1, n2, n3, hF⟩ := s
 obtain ⟨m, cl, hm⟩ : ∃ m cl, w.heap[bm]? = some (.map m cl) := by
  obtain ⟨_, _, m, cl, _, _, h, _⟩ := h2
  exact ⟨m, cl, h⟩
 have hh := start_C (es := es) (m := m) (cl := cl) (sc := encL (most :: (hi : Int) :: K)) hl hb hc
 refine calls_sumsO (β := ⟨w, noO, GC bm cl bs es m (encL (most :: (hi : Int) :: K))⟩) (R := RCl w A most hi K es) noCount noExt (spC_ok h1 h2 hm) follows Try.func28 rfl run_ce (xs := [.pointer (some ⟨b, 0, none⟩)]) (by simp only [AVal.denL, me_den (show (envC A es m (encL (most :: (hi : Int) :: K)) b bs bm cl).N 0 = some b from rfl)]) hh (CRel_nil.2 trivial) (fun s hs => ?_)
 simp only [sums_ce, List.mem_cons, List.not_mem_nil, or_false] at hs
 subst hs
 refine ⟨trivial, fun ρ' hle hc' T hT hG' => ?_⟩
 have hT : tC = T := Option.some.inj hT
 subst hT
 have hi95 : ρ'.I 95 = encL [(bm : Int), (cl : Int), (cl : Int)] := by rw [hle.i]; rfl
 refine ⟨keep_app (GC_keep _ _ _ _ _ _) rfl rfl hG', ?_, fun a w' r => loop_C h1 h2 hm _ ⟨[], ?_, ?_, ?_, ?_, List.nodup_nil, fun k hk => by cases hk⟩ _ a w' (.inr rfl) r⟩
 · simp only [tC, csP, CRel_cons, CRel_nil, and_true]
   unfold preT
   have hg : GC bm cl bs es m (encL (most :: (hi : Int) :: K)) ρ'.I ρ'.B ρ'.S ρ'.V ρ'.F := hG'
   have e95 : (IT.var 222).den (Go.Vm.Sub.app ⟨[(200, (.var 100)), (201, (.var 101)), (202, (.var 102)), (203, (.var 103)), (204, (.var 104)), (205, (.var 105)), (206, (.var 106)), (207, (.var 107)), (208, (.var 108)), (209, (.var 109)), (210, (.var 110)), (211, (.var 111)), (212, (.var 112)), (213, (.var 113)), (214, (.var 114)), (215, (.var 115)), (216, (.var 116)), (217, (.var 117)), (218, (.var 118)), (219, (.var 119)), (220, (.var 93)), (221, (.lit 0)), (222, (.var 95))], [], [], [], [(0, 1), (3, 4), (1, 2), (2, 3)]⟩ ρ') = some (encL [(bm : Int), (cl : Int), (cl : Int)]) := congrArg some hi95
   rw [cmpD (fnD e95 (litD 0)) (litD 1)]
   show (intCmp .eql (ρ'.F 69 _ 0) 1) = some true
   rw [hg.1.2.2.2.2.2]
   unfold fPre
   rw [decL_encL, if_pos (show List.take 3 [(bm : Int), (cl : Int), (cl : Int)] = [(bm : Int), (cl : Int), (cl : Int)] from rfl)]
   rfl
 · show [ρ'.I 100, ρ'.I 101, ρ'.I 102, ρ'.I 103, ρ'.I 104, ρ'.I 105, ρ'.I 106, ρ'.I 107, ρ'.I 108, ρ'.I 109, ρ'.I 110, ρ'.I 111, ρ'.I 112, ρ'.I 113, ρ'.I 114, ρ'.I 115, ρ'.I 116, ρ'.I 117, ρ'.I 118, ρ'.I 119] = A
   rw [hle.i]
   obtain ⟨a0, a1, a2, a3, a4, a5, a6, a7, a8, a9, a10, a11, a12, a13, a14, a15, a16, a17, a18, a19, rfl⟩ := len20 hl
   rfl
 · show ρ'.I 93 = _
   rw [hle.i]; rfl
 · exact hi95
 · rfl
end Ar
end Go.Proofs.Ytighjgmgpphohaa
end
section
namespace Go.Proofs.Ytighjgmgpphohaa
open Go.Vm Go.Vm.Le Go.Vm.Mb
namespace Ar
def qA : List AVal := [.slice 0 (.var 210) (.var 211) (.nv 2), .slice 1 (.var 213) (.var 211) (.nv 3)]
def qR (o : Nat) : ABlk := .arr (.code [.u64] (.var 215)) [.u64] 32 (.var 211) (.var o) none
def qH : List (Nat × HB) := [(0, ⟨qR 210, false⟩), (1, ⟨qR 213, false⟩)]
def csQ : Cs := [(.cmp .geq (.var 211) (.lit 0), true)]
def csQi : Cs := [(.cmp .geq (.var 220) (.lit 0), true), (.cmp .leq (.var 220) (.var 211), true)]
def tQ : Tpl := ⟨[(0, .slice 0 (.var 210) (.var 211) (.nv 2)), (1, .slice 1 (.var 213) (.var 211) (.nv 3)), (4, .bool (.lit false)), (12, iV 211), (13, iV 220)], 26, qH, 4, csQi, 3⟩
end Ar
end Go.Proofs.Ytighjgmgpphohaa
end
section
namespace Go.Proofs.Ytighjgmgpphohaa
open Go.Vm Go.Vm.Le Go.Vm.Mb
namespace Ar
noncomputable def qb0 : Code := ((loopsOf (Try.f50.body.getD .ret) []).getD 0 (.ret, [])).1
noncomputable def qk0 : List Item := ((loopsOf (Try.f50.body.getD .ret) []).getD 0 (.ret, [])).2
noncomputable def sums_qe : List LM := [.next 0 (.code (.loop qb0) :: qk0) [((.cmp .geq (.var 211) (.lit 0)), true)] ⟨[(210, (.var 210)), (211, (.var 211)), (213, (.var 213)), (220, (.lit 0)), (215, (.var 215))], [], [], [], [(0, 0), (2, 2), (1, 1), (3, 3)]⟩]
noncomputable def sums_qr : List LM := [.next 0 (.inLoop qb0 :: qk0) [((.cmp .lss (.var 220) (.var 211)), true), ((.cmp .geq (.var 220) (.lit 0)), true), ((.cmp .leq (.var 220) (.var 211)), true)] ⟨[(210, (.var 210)), (211, (.var 211)), (213, (.var 213)), (220, (.bin .add .i64 (.var 220) (.lit 1))), (215, (.var 215))], [], [], [], [(0, 0), (2, 2), (1, 1), (3, 3)]⟩,
 .done 0 [((.cmp .lss (.var 220) (.var 211)), false), ((.cmp .geq (.var 220) (.lit 0)), true), ((.cmp .leq (.var 220) (.var 211)), true)] ⟨[], [], [], [], []⟩]
def eQ : List Tpl := eR [.bool (.lit true)]
theorem run_qe : (run Try.prog [] noSp 4000 true 50 (entry Try.f50 (Try.f50.body.getD .ret) qA (ofP qH) 4 csQ)).map (·.filterMap (sumMO gA [] eQ [tQ])) = some sums_qe := by kernel_rfl
theorem run_qr : (run Try.prog [] noSp 4000 true 50 (tQ.st (.code qb0 :: .inLoop qb0 :: qk0))).map (·.filterMap (sumMO gA [] eQ [tQ])) = some sums_qr := by kernel_rfl
def REq (w : World) : Value -> World -> Prop := fun x w' => x = .bool true /\ Framed w w'
theorem loop_q {w : World} {n : Nat} (hn : n <= 1000000) : ∀ ρ, (ρ.I 211 = (n : Int) /\ ∃ i : Nat, ρ.I 220 = (i : Int) /\ i <= n) -> ∀ todo a w', todo = .inLoop qb0 :: qk0 ∨ todo = .code (.loop qb0) :: qk0 -> SRel ⟨w, noO, G0⟩ ρ (tQ.st todo) a w' -> Goes Try.prog 50 (REq w) todo a w' := by
 refine loop_goesO (β := ⟨w, noO, G0⟩) noCount noExt noSp_ok follows run_qr (fun ρ => ρ.I 211 = (n : Int) /\ ∃ i : Nat, ρ.I 220 = (i : Int) /\ i <= n) (fun ρ => n - (ρ.I 220).toNat) (fun ρ hJ hcs hG ih s hs => ?_)
 obtain ⟨j1, i, j2, j3⟩ := hJ
 have d1 : ∀ {ρ' : Env}, ρ.Le ρ' -> (IT.var 211).den ρ' = some (n : Int) := fun h => by show some _ = _; rw [h.i, j1]
 have d2 : ∀ {ρ' : Env}, ρ.Le ρ' -> (IT.var 220).den ρ' = some (i : Int) := fun h => by show some _ = _; rw [h.i, j2]
 simp only [sums_qr, List.mem_cons, List.not_mem_nil, or_false] at hs
 rcases hs with rfl | rfl
 all_goals first
  | (refine ⟨trivial, fun ρ' hle hc T hT hG' => ?_⟩
     have hT : (⟨[(0, .bool (.lit true))], 1, [], 20, [], 0⟩ : Tpl) = T := Option.some.inj hT
     subst hT
     refine ⟨trivial, CRel_nil.2 trivial, fun x w' r => ?_⟩
     obtain ⟨y, hy, he⟩ := r.t 0 (.bool (.lit true)) rfl
     obtain rfl : x = y := Option.some.inj he
     exact ⟨(Option.some.inj hy).symm, Framed.of r.h⟩)
  | (refine ⟨trivial, fun ρ' hle hc T hT hG' => ?_⟩
     have hT : tQ = T := Option.some.inj hT
     subst hT
     simp only [CRel_cons, CRel_nil, and_true] at hc
     have hlt : i < n := by
      have h1 := hc.1
      rw [cmpD (d2 hle) (d1 hle)] at h1
      simp only [intCmp, Option.some.injEq, decide_eq_true_eq] at h1
      omega
     have e1 : (IT.bin .add .i64 (.var 220) (.lit 1)).den ρ' = some (((i + 1 : Nat)) : Int) := by
      simp only [IT.den, show ρ'.I 220 = (i : Int) from Option.some.inj (d2 hle), intBin]
      rw [wrap_ok (by omega) (by omega)]
      rfl
     have i1 : ((IT.bin .add .i64 (.var 220) (.lit 1)).den ρ').getD 0 = ((i + 1 : Nat) : Int) := by rw [e1]; rfl
     have n1 : ρ'.I 211 = (n : Int) := Option.some.inj (d1 hle)
     refine ⟨trivial, ?_, fun a w' r => ih _ ?_ ⟨?_, i + 1, ?_, by omega⟩ _ a w' (.inl rfl) r⟩
     · simp only [tQ, csQi, CRel_cons, CRel_nil, and_true]
       refine ⟨?_, ?_⟩
       · exact geqT (x := ((i + 1 : Nat) : Int)) (congrArg some i1) (litD 0) (by omega)
       · exact leqT (x := ((i + 1 : Nat) : Int)) (y := (n : Int)) (congrArg some i1) (congrArg some n1) (by omega)
     · show n - (((IT.bin .add .i64 (.var 220) (.lit 1)).den ρ').getD 0).toNat < _
       rw [i1, j2]; omega
     · exact n1
     · exact i1)
theorem equal50 {w : World} {r1 o1 r2 o2 n c1' c2' : Nat} {z : Int} (h1 : WordsAt w r1 o1 n z) (h2 : WordsAt w r2 o2 n z) (hn : n <= 1000000) :
 Calls Try.prog 50 #[.slice (some ⟨r1, o1, none⟩) n c1', .slice (some ⟨r2, o2, none⟩) n c2'] w (fun e w' => e = .returned (.bool true) /\ Framed w w') := by
 obtain ⟨cc, fr, el, hr, ho, hp, ht⟩ := h1
 obtain ⟨cc2, fr2, el2, hr2, ho2, hp2, ht2⟩ := h2
 let ρ : Env := ⟨fun i => if i = 210 then o1 else if i = 211 then n else if i = 213 then o2 else z, fun _ => false, fun _ => default, fun _ => undef, fun i => if i = 0 then some r1 else if i = 1 then some r2 else if i = 2 then some c1' else if i = 3 then some c2' else none, FA⟩
 have hh : HRel ⟨w, noO, G0⟩ ρ (ofP qH) 4 w := by
  refine HRel.ro [(0, qR 210), (1, qR 213)] (fun p hp' => ?_) (fun i hi => ?_) trivial
  · simp only [List.mem_cons, List.not_mem_nil, or_false] at hp'
    rcases hp' with rfl | rfl
    · exact ⟨r1, _, rfl, hr, _, cc, fr, el, n, o1, rfl, (fun e => by cases e), rfl, rfl, ⟨ho, hp⟩, rfl, ht, trivial, (fun e => by cases e)⟩
    · exact ⟨r2, _, rfl, hr2, _, cc2, fr2, el2, n, o2, rfl, (fun e => by cases e), rfl, rfl, ⟨ho2, hp2⟩, rfl, ht2, trivial, (fun e => by cases e)⟩
  · show (if i = 0 then some r1 else if i = 1 then some r2 else if i = 2 then some c1' else if i = 3 then some c2' else none) = none
    rw [if_neg (by omega), if_neg (by omega), if_neg (by omega), if_neg (by omega)]
 refine (calls_sumsO (β := ⟨w, noO, G0⟩) (R := REq w) noCount noExt noSp_ok follows Try.func50 rfl run_qe (xs := [.slice (some ⟨r1, o1, none⟩) n c1', .slice (some ⟨r2, o2, none⟩) n c2']) rfl hh (c1 (geqT (x := (n : Int)) (varD rfl) (litD 0) (by omega)) (CRel_nil.2 trivial)) (fun s hs => ?_)).mono fun e w' ⟨v, he, hv, hf⟩ => ⟨by rw [he, hv], hf⟩
 simp only [sums_qe, List.mem_cons, List.not_mem_nil, or_false] at hs
 subst hs
 refine ⟨trivial, fun ρ' hle hc' T hT hG' => ?_⟩
 have hT : tQ = T := Option.some.inj hT
 subst hT
 have n1 : ρ'.I 211 = (n : Int) := by rw [hle.i]; rfl
 refine ⟨trivial, ?_, fun a w' r => loop_q hn _ ⟨?_, 0, ?_, Nat.zero_le _⟩ _ a w' (.inr rfl) r⟩
 rotate_left
 · exact n1
 · rfl
 simp only [tQ, csQi, CRel_cons, CRel_nil, and_true]
 exact ⟨geqT (x := 0) rfl (litD 0) (by omega), leqT (x := 0) (y := (n : Int)) rfl (congrArg some n1) (by omega)⟩
end Ar
end Go.Proofs.Ytighjgmgpphohaa
end
