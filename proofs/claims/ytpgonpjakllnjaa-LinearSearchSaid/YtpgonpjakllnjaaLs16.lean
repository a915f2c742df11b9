/-
  LinearSearch (13): the heads of Search.
-/
import Derived.Test.YtpgonpjakllnjaaLs12
section
section
namespace Go.Proofs.Ytpgonpjakllnjaa
open Go.Vm Go.Vm.Md Lm Lt
namespace Ls

/-- What is left; what must be: none yet, or a row. -/
inductive Kq where
  | nn
  | nr
  | rr
def Kq.l : Kq → AVal
  | .nn => .sliceNil
  | _ => .slice 17 (.lit 0) (.var 21) (.nv 18)
def Kq.m : Kq → AVal
  | .rr => .slice 19 (.lit 0) (.var 23) (.nv 20)
  | _ => .sliceNil
def rwB (x n c : Nat) : HB := ⟨.arr (.code [.i64] (.var x)) [.i64] 3 (.var n) (.lit 0) (some (.nv c)), true⟩
def Kq.e : Kq → List (Nat × HB)
  | .nn => []
  | .nr => [(17, rwB 20 21 18)]
  | .rr => [(17, rwB 20 21 18), (19, rwB 22 23 20)]
def Kq.cs : Kq → Cs
  | .nn => []
  | .nr => csN (.var 21)
  | .rr => csN (.var 21) ++ csN (.var 23)
def sB (q : Kq) : HB := ⟨.cells [SL .row, q.m, .sliceNil, q.l] 56 none, true⟩
def ivR : HB := ⟨.arr (.code [.i64] (.var 47)) [.i64] 3 (.var 48) (.lit 0) (some (.nv 16)), true⟩
def TSe (q : Kq) : Tpl := ⟨[(0, SL .row), (4, .ptr 14 (.lit 0)), (11, .slice 15 (.lit 0) (.var 48) (.nv 16)), (12, iV 48), (13, iV 9)], 63, [(14, sB q), (0, ⟨bL, false⟩), (15, ivR)] ++ q.e, 200, cs9 (.var 48) ++ csN (.var 48) ++ csL .row ++ q.cs, 3⟩
def tsS : List Tpl := [TSe .rr, TSe .nr, TSe .nn]
def vT : IT := .un 0 (.var 47) (.elem (.lit 0) 1 0 at9)
def onF : BT := .cmp .eql (.var 77) (.lit 1)
def csFn : Cs := [q9 .eql (.var 20) (.var 66) true, q9 .eql (.var 21) (.var 67) true, q9 .eql (.var 22) (.var 73) true, q9 .eql (.var 23) (.var 74) true]
def mS : AVal := .slice 19 (.lit 0) (.var 23) (.nv 20)
def onY0 (H : Heap) (ls nl : Nat) : Heap := ((H.del 17).set (nl + 2) (orB nl (.var 75) (.var 76))).set ls ⟨.cells [SL .row, mS, .slice (nl + 2) (.lit 0) (.var 76) (.nv nl)] 56 (some (nl + 1, 1)), true⟩
def onN0 (H : Heap) (ls nl : Nat) : Heap := ((H.del 17).set (nl + 2) (rwB 20 21 18)).set ls ⟨.cells [SL .row, mS] 56 (some (nl + 1, 1)), true⟩
def spOn0 : SpG := fun args H nl cs => match args with
  | [.ptr ls (.lit (.ofNat 0)), .ptr lm (.lit (.ofNat 0))] => match H.get ls, bigM H lm, H.get 17, H.get 19 with
    | some ⟨bs, true⟩, some c, some ⟨bl, true⟩, some ⟨bm, true⟩ => cond (ABlk.beq bs (sB .rr).k && (IT.beq c m0T && (ABlk.beq bl (rwB 20 21 18).k && (ABlk.beq bm (rwB 22 23 20).k && (hasE [(0, bL)] H && lookC csFn cs)))))
        (match lookB cs onF with
          | some true => some [.ret (.bool (.lit true)) (onY0 H ls nl) (nl + 3) cs]
          | some false => some [.ret (.bool (.lit false)) (onN0 H ls nl) (nl + 3) cs]
          | none => none) none
    | _, _, _, _ => none
  | _ => none
/-- The order found, cloned. -/
def spClO : SpG := fun args H nl cs => match args with
  | [.slice l (.lit (.ofNat 0)) n (.nv c)] => match H.get l with
    | some k => cond (IT.beq n (.var 76) && ABlk.beq k.k (orB c (.var 75) (.var 76)).k) (some [.ret (.slice (nl + 1) (.lit 0) (.var 76) (.nv nl)) (H.set (nl + 1) (orB nl (.var 75) (.var 76))) (nl + 2) cs]) none
    | none => none
  | _ => none
def spSe (b : Bool) : CallF := spL [(18, spInv b), (10, spNew), (21, spOn0), (22, spClO)]
def spSn (b : Bool) : CallF := spL [(18, spInv b), (10, spNew)]
/-- The ends. -/
def eNo : Tpl := ⟨[(0, .tuple [.sliceNil, .bool (.lit false)])], 1, [], 200, [], 0⟩
def eNil : Tpl := ⟨[(0, .tuple [.sliceNil, .bool (.lit true)])], 1, [], 200, [], 0⟩
def eRow : Tpl := ⟨[(0, .tuple [.slice 13 (.lit 0) (.var 22) (.nv 12), .bool (.lit true)])], 1, [(13, ⟨.arr (.code [.i64] (.var 23)) [.i64] 3 (.var 22) (.lit 0) (some (.nv 12)), true⟩)], 200, [], 0⟩
def rsS : List Tpl := [eRow, eNil, eNo]
end Ls
end Go.Proofs.Ytpgonpjakllnjaa
end

/-
  LinearSearch (14): what Search calls.
-/
section
namespace Go.Proofs.Ytpgonpjakllnjaa
open Go.Vm Go.Vm.Md Lm Lt
namespace Ls

theorem _root_.Go.Vm.HRel.mapG {w : World} {own : List Nat} {G G' : GP} {ρ : Env} {H : Heap} {nl : Nat} {w' : World} (h : HRel ⟨w, own, G⟩ ρ H nl w') (hG : G' ρ.I ρ.B ρ.S ρ.V ρ.F) : HRel ⟨w, own, G'⟩ ρ H nl w' :=
  ⟨h.blk, h.inj, h.own, h.fresh, h.ownN, h.size, h.frame, h.tape, h.os, h.out, hG, h.big⟩
section
variable (d : Dt)
def ivs : List Int := d.iv d.n
def lfI : Nat → List Int
  | 0 => []
  | i + 1 => if d.refd ((ivs d).getD i 0) = true then lfI i else lfI i ++ [(ivs d).getD i 0]
def muI : Nat → List Int
  | 0 => []
  | i + 1 => if d.refd ((ivs d).getD i 0) = true then muI i else if d.ended ((ivs d).getD i 0) = true then muI i ++ [(ivs d).getD i 0] else muI i
def lfA : List Int := lfI d (ivs d).length
def muA : List Int := muI d (ivs d).length
def d1 (q : Nat) : Dt := ⟨.row, .row, d.x, encL (muA d), d.n, (muA d).length, q⟩
def sRes : Option (List Int) := onP (d1 d 0) ((lfA d).length + 1) mod0 [] (lfA d)
def pinsX : List (Nat × Int) := [(66, encL (lfA d)), (67, ((lfA d).length : Int)), (73, encL (muA d)), (74, ((muA d).length : Int)), (75, encL ((sRes d).getD [])), (76, (((sRes d).getD []).length : Int)), (77, if (sRes d).isSome then 1 else 0)]
def Gx : GP := fun I B S V F => Gd d I B S V F ∧ ∀ p ∈ pinsX d, I p.1 = p.2
end
theorem onP_done {d : Dt} : ∀ {f : Nat} {m : Mod} {O L R : List Int}, onP d f m O L = some R → doneP d R = true
  | 0, m, O, L, R, h => by
    simp only [onP] at h
    split at h
    · rename_i hd; cases h; exact hd
    · cases h
  | f + 1, m, O, L, R, h => by
    simp only [onP] at h
    split at h
    · rename_i hd; cases h; exact hd
    · obtain ⟨i, _, hi⟩ := firstS_some h
      unfold tryP at hi
      split at hi
      · exact onP_done hi
      · cases hi
theorem onP_len {d : Dt} : ∀ {f : Nat} {m : Mod} {O L R : List Int}, onP d f m O L = some R → R.length ≤ O.length + L.length
  | 0, m, O, L, R, h => by
    simp only [onP] at h
    split at h
    · cases h; omega
    · cases h
  | f + 1, m, O, L, R, h => by
    simp only [onP] at h
    split at h
    · cases h; omega
    · obtain ⟨i, hil, hi⟩ := firstS_some h
      unfold tryP at hi
      split at hi
      · have := onP_len hi
        rw [List.length_append, List.length_eraseIdx_of_lt hil] at this
        simp only [List.length_singleton] at this
        omega
      · cases hi
theorem onP_q (d : Dt) (q : Nat) : ∀ (f : Nat), onP (d1 d q) f = onP (d1 d 0) f
  | 0 => rfl
  | f + 1 => by
    funext m O L
    have ih := onP_q d q f
    show (if doneP (d1 d 0) O = true then some O else firstS (tryP (d1 d 0) (onP (d1 d q) f) m O L) L.length) = _
    rw [ih]; rfl
section
variable {d : Dt}
theorem lf_len (i : Nat) : (lfI d i).length ≤ i := by
  induction i with
  | zero => exact Nat.le_refl _
  | succ i ih =>
    unfold lfI
    split
    · omega
    · rw [List.length_append]; simp only [List.length_singleton]; omega
theorem mu_len (i : Nat) : (muI d i).length ≤ (lfI d i).length := by
  induction i with
  | zero => exact Nat.le_refl _
  | succ i ih =>
    unfold lfI muI
    split
    · exact ih
    · rw [List.length_append]; simp only [List.length_singleton]
      split
      · rw [List.length_append]; simp only [List.length_singleton]; omega
      · omega
theorem lf_mem {i : Nat} (h : i ≤ (ivs d).length) : ∀ v ∈ lfI d i, v ∈ ivs d := by
  induction i with
  | zero => intro v hv; cases hv
  | succ i ih =>
    intro v hv
    unfold lfI at hv
    split at hv
    · exact ih (by omega) v hv
    · rcases List.mem_append.1 hv with h1 | h1
      · exact ih (by omega) v h1
      · obtain rfl := List.mem_singleton.1 h1
        rw [List.getD_eq_getElem?_getD, List.getElem?_eq_getElem (by omega), Option.getD_some]
        exact List.getElem_mem _
theorem mu_mem {i : Nat} (h : i ≤ (ivs d).length) : ∀ v ∈ muI d i, v ∈ ivs d := by
  induction i with
  | zero => intro v hv; cases hv
  | succ i ih =>
    intro v hv
    unfold muI at hv
    split at hv
    · exact ih (by omega) v hv
    · split at hv
      · rcases List.mem_append.1 hv with h1 | h1
        · exact ih (by omega) v h1
        · obtain rfl := List.mem_singleton.1 h1
          rw [List.getD_eq_getElem?_getD, List.getElem?_eq_getElem (by omega), Option.getD_some]
          exact List.getElem_mem _
      · exact ih (by omega) v hv
theorem iv_in : ∀ (i : Nat), ∀ v ∈ d.iv i, 0 ≤ v ∧ v < (i : Int) := by
  intro i
  induction i with
  | zero => intro v hv; cases hv
  | succ i ih =>
    intro v hv
    unfold Dt.iv at hv
    split at hv
    · rcases List.mem_append.1 hv with h1 | h1
      · have := ih v h1; omega
      · obtain rfl := List.mem_singleton.1 h1; omega
    · have := ih v hv; omega
theorem ivs_in {v : Int} (h : v ∈ ivs d) : d.inR v = true := by
  have := iv_in d.n v h
  simp only [Dt.inR, Bool.and_eq_true, decide_eq_true_eq]; exact this
theorem pinX {ρ : Env} (h : (Gx d).at ρ) {i : Nat} {x : Int} (hp : (i, x) ∈ pinsX d) : (IT.var i).den ρ = some x := varD (h.2 _ hp)
theorem sok (ok : DOk d) (hl : d.kl = .row) (hm : muA d ≠ []) {q : Nat} (hq : (muA d).length ≤ q) : SOk ⟨d1 d q, [], lfA d, mod0, (lfA d).length⟩ := by
  have hn := ok.n60
  have hiv := d.iv_le d.n
  have h1 : (lfA d).length ≤ (ivs d).length := lf_len _
  have h2 : (muA d).length ≤ (lfA d).length := mu_len _
  have h3 : (ivs d).length ≤ d.n := hiv
  have hn1 : 1 ≤ d.n := by have := ok.kl; rw [hl] at this; exact this
  refine ⟨⟨ok.lx, ?_, hn, ?_, hq, hn1, List.length_pos_iff.2 hm⟩, rfl, rfl, Nat.zero_le _, ?_, fun i hi => ?_, fun i hi => ?_⟩
  · show (decL (encL (muA d))).length = (muA d).length
    rw [decL_encL]
  · show (muA d).length ≤ 60; omega
  · show (lfA d).length ≤ 60; omega
  · have hi' : i < (muA d).length := hi
    have hm : (muA d).getD i 0 ∈ ivs d := mu_mem (Nat.le_refl _) _ (by rw [List.getD_eq_getElem?_getD, List.getElem?_eq_getElem hi', Option.getD_some]; exact List.getElem_mem _)
    have := ivs_in hm
    show d.inR ((decL (encL (muA d))).getD i 0) = true
    rw [decL_encL]; exact this
  · have hi' : i < (lfA d).length := hi
    have hm : (lfA d).getD i 0 ∈ ivs d := lf_mem (Nat.le_refl _) _ (by rw [List.getD_eq_getElem?_getD, List.getElem?_eq_getElem hi', Option.getD_some]; exact List.getElem_mem _)
    show d.inR ((lfA d).getD i 0) = true
    exact ivs_in hm
theorem row_of {ρ : Env} {w : World} {b x n c : Nat} {o : Obj} {L : List Int} (h : (rwB x n c).k.rel ρ true o) (ho : w.heap[b]? = some o) (hx : ρ.I x = encL L) : ∃ cc fr cap, o = .cells cc 3 fr ∧ L.map (Value.int .i64) <+: cc.toList ∧ cc.size = cap ∧ FrOk fr cc.size ∧ ρ.N c = some cap := by
  obtain ⟨ys, cc, fr, el, m, b0, rfl, hel, hd, hoff, ⟨_, hp⟩, _, _, ⟨cap, hcap, hroom⟩, hf⟩ := h
  obtain rfl := hel rfl
  obtain rfl : b0 = 0 := by have := Option.some.inj hoff; exact (Int.ofNat.inj this).symm
  have ex : (IT.var x).den ρ = some (encL L) := varD hx
  have e : (AT.code [.i64] (.var x)).den ρ = some (rowOf [.i64] L) := by simp only [AT.den, ex, Option.map_some, decL_encL]
  obtain rfl : ys = _ := Option.some.inj (hd.symm.trans e)
  rw [List.drop_zero, rowOf1] at hp
  refine ⟨cc, fr, cap, rfl, hp, by have : cc.size - 0 = cap * 1 := hroom; omega, hf rfl, ?_⟩
  cases hN : ρ.N c with
  | none => simp only [IT.den, hN] at hcap; cases hcap
  | some q =>
    have : (IT.nv c).den ρ = some (q : Int) := nvD hN
    rw [this] at hcap
    have := Option.some.inj hcap
    exact congrArg some (Int.ofNat.inj this)
end
end Ls
end Go.Proofs.Ytpgonpjakllnjaa
end

/-
  LinearSearch (15): 'on' as Search calls it; the order found, cloned.
-/
section
namespace Go.Proofs.Ytpgonpjakllnjaa
open Go.Vm Go.Vm.Md Lm Lt
namespace Ls

section
variable {d : Dt} {β : Base} (hβ : β.G = Gx d)
include hβ
theorem spInvX_ok (ok : DOk d) (hl : d.kl = .row) {z : Bool} (hz : z = true ↔ ivs d = []) : SpGOk Try.prog β 18 (spInv z) := by
  cases z with
  | true =>
    refine spE_ok rfl fun ρ w xs hx hr _ => ⟨.slice none 0 0, rfl, ?_⟩
    rw [hβ] at hr
    refine (inv18 ok hl (hr.mapG hr.g.1) hx).mono fun e w' ⟨v, he, h⟩ => ?_
    rcases h with ⟨_, hv, hf⟩ | ⟨hne, _⟩
    · exact ⟨by rw [he, hv], hf⟩
    · exact absurd (hz.1 rfl) hne
  | false =>
    refine spRow_ok rfl fun ρ w xs hx hr _ => ⟨d.iv d.n, (d.iv d.n).length, ?_, ?_, ?_⟩
    · have := hr.g; rw [hβ] at this; exact pin this.1 (by simp [pins])
    · have := hr.g; rw [hβ] at this; exact pin this.1 (by simp [pins])
    · rw [hβ] at hr
      refine (inv18 ok hl (hr.mapG hr.g.1) hx).mono fun e w' ⟨v, he, h⟩ => ?_
      rcases h with ⟨hn, _⟩ | ⟨_, ro⟩
      · have := hz.2 hn; cases this
      · exact ⟨v, he, ro⟩
theorem spClO_ok (hR : ((sRes d).getD []).length ≤ 60) : SpGOk Try.prog β 22 spClO := by
  intro args H nl cs ls ρ w xs hr hx hh hc
  have hg : (Gx d).at ρ := by have := hh.g; rw [hβ] at this; exact this
  unfold spClO at hr
  split at hr
  rotate_left
  · cases hr
  rename_i l n c
  split at hr
  rotate_left
  · cases hr
  rename_i k hk
  cases hb : (IT.beq n (.var 76) && ABlk.beq k.k (orB c (.var 75) (.var 76)).k) with
  | false => rw [hb] at hr; cases hr
  | true =>
    rw [hb] at hr; simp only [cond_true, Option.some.injEq] at hr
    subst hr
    simp only [Bool.and_eq_true] at hb
    obtain rfl := IT.beq_eq hb.1
    obtain ⟨R, hRd⟩ : ∃ R, R = (sRes d).getD [] := ⟨_, rfl⟩
    rw [← hRd] at hR
    have e75 : (IT.var 75).den ρ = some (encL R) := by rw [hRd]; exact pinX hg (by simp [pinsX])
    have e76 : (IT.var 76).den ρ = some (R.length : Int) := by rw [hRd]; exact pinX hg (by simp [pinsX])
    obtain ⟨b, o, hN, ho, hrel⟩ := hh.blk _ _ hk
    rw [ABlk.beq_eq hb.2] at hrel
    obtain ⟨cc, fr, el, rfl, hp⟩ := ro_of (L := R) hrel e75
    obtain ⟨_, _, _, _, m, b0, hoo, _, _, _, _, hnm, _, ⟨cap, hcap, _⟩, _⟩ := hrel
    have hx' : AVal.denL ρ [.slice l (.lit 0) (.var 76) (.nv c)] = some [.slice (some ⟨b, 0, none⟩) R.length cap] := denL1 (den_slice_of hN rfl e76 hcap)
    obtain rfl : _ = xs := Option.some.inj (hx'.symm.trans hx)
    have hp' : rowOf [.i64] R <+: cc.toList.drop 0 := by rw [List.drop_zero, rowOf1]; exact hp
    refine (Go.Proofs.AnyG.slices_Clone_int cloA b 0 R.length cap R w (Nat.le_refl _) (by omega) (fun j hj => by rw [Nat.zero_add, cell_of w ho]; exact pre_get hp' hj)).mono fun r w' ⟨v', he, hrow, hnn, hbel⟩ => ?_
    have hf := framedB hbel
    obtain ⟨_, h⟩ := hrow
    rcases h with ⟨q, _⟩ | ⟨g, cp, cur, rfl, hge, hcur, hle1, hle2, hsz, htk⟩
    · exact absurd q hnn
    have h0 := hh.num cp
    have hle := Env.le_put (b := cp) (hh.fresh nl (Nat.le_refl _))
    have hle2' := Env.le_put (b := g) (h0.fresh (nl + 1) (Nat.le_refl _))
    have hall := hle.trans hle2'
    have qn : ((ρ.put nl cp).put (nl + 1) g).N nl = some cp := hle2'.n _ _ (Env.put_same ..)
    have hpr : R.map (Value.int .i64) <+: cur.toList := by
      have : R.map (Value.int .i64) = (R.take R.length).map (Value.int .i64) := by rw [List.take_length]
      rw [this, ← htk]; exact List.take_prefix _ _
    have h1 := h0.adopt hf (b := g) hge hcur (k := (orB nl (.var 75) (.var 76)).k) (rw := true) (orB_rel hpr (by simpa using hsz) (.inl (Nat.le_refl _)) (IT.den_mono hall e75) (IT.den_mono hall e76) qn)
    exact ⟨_, he, _, _, _, _, (ρ.put nl cp).put (nl + 1) g, List.mem_cons_self, hall, den_slice_of (Env.put_same ..) rfl (IT.den_mono hall e76) (nvD qn), h1, hc.mono hall⟩
theorem spOn0_ok (ok : DOk d) (hl : d.kl = .row) (hmu : muA d ≠ []) : SpGOk Try.prog β 21 spOn0 := by
  intro args H nl cs lvs ρ w xs hr hx hh hc
  have hg : (Gx d).at ρ := by have := hh.g; rw [hβ] at this; exact this
  have hd := hg.1
  unfold spOn0 at hr
  split at hr
  rotate_left
  · cases hr
  rename_i ls lm
  split at hr
  rotate_left
  · cases hr
  rename_i bs c bl bm hs hbig hll hlm
  cases hb : (ABlk.beq bs (sB .rr).k && (IT.beq c m0T && (ABlk.beq bl (rwB 20 21 18).k && (ABlk.beq bm (rwB 22 23 20).k && (hasE [(0, bL)] H && lookC csFn cs))))) with
  | false => rw [hb] at hr; cases hr
  | true =>
    rw [hb] at hr; simp only [cond_true] at hr
    simp only [Bool.and_eq_true] at hb
    obtain ⟨h1, h2, h3, h4, h5, h6⟩ := hb
    obtain rfl := ABlk.beq_eq h1
    obtain rfl := IT.beq_eq h2
    obtain rfl := ABlk.beq_eq h3
    obtain rfl := ABlk.beq_eq h4
    have hcf := lookC_ok h6 hc
    have e66 : (IT.var 66).den ρ = some (encL (lfA d)) := pinX hg (by simp [pinsX])
    have e67 : (IT.var 67).den ρ = some ((lfA d).length : Int) := pinX hg (by simp [pinsX])
    have e73 : (IT.var 73).den ρ = some (encL (muA d)) := pinX hg (by simp [pinsX])
    have e74 : (IT.var 74).den ρ = some ((muA d).length : Int) := pinX hg (by simp [pinsX])
    have eqv : ∀ {i j : Nat} {x : Int}, (q9 .eql (.var i) (.var j) true) ∈ csFn → (IT.var j).den ρ = some x → ρ.I i = x := fun {i j x} hm he => by
      have a := hcf _ hm
      simp only [q9] at a
      rw [cmpD (show (IT.var i).den ρ = some (ρ.I i) from rfl) he] at a
      simpa [intCmp] using a
    have i20 := eqv (i := 20) (by simp [csFn]) e66
    have i21 := eqv (i := 21) (by simp [csFn]) e67
    have i22 := eqv (i := 22) (by simp [csFn]) e73
    have i23 := eqv (i := 23) (by simp [csFn]) e74
    obtain ⟨b, o, hNs, hos, ys, cc, fr, rfl, hden, hpre, htail, hfr⟩ := hh.blk _ _ hs
    have hcl := cells_list hden hpre htail
    obtain ⟨v0, v1, vo, vL', d0, d1', d2, d3, rfl⟩ := denL4 hden
    obtain rfl : vo = .slice none 0 0 := (Option.some.inj d2).symm
    obtain ⟨bl', ol, hNl, hol, hrl⟩ := hh.blk _ _ hll
    obtain ⟨bm', om, hNm, hom, hrm⟩ := hh.blk _ _ hlm
    obtain ⟨cL, frL, capL, rfl, hpL, hszL, hfL, hcapL⟩ := row_of hrl hol i20
    obtain ⟨cM, frM, capM, rfl, hpM, hszM, hfM, hcapM⟩ := row_of hrm hom i22
    obtain rfl : vL' = .slice (some ⟨bl', 0, none⟩) (lfA d).length capL := Option.some.inj (d3.symm.trans (den_slice_of hNl rfl (varD i21) (nvD hcapL)))
    obtain rfl : v1 = .slice (some ⟨bm', 0, none⟩) (muA d).length capM := Option.some.inj (d1'.symm.trans (den_slice_of hNm rfl (varD i23) (nvD hcapM)))
    obtain ⟨Fp, hB⟩ := hh.big
    have hbg := bigM_get hbig
    obtain ⟨bo, y, hNo, hcx, ⟨_, Q, M, S, hy, s, mok⟩, _⟩ := hB.ok _ _ _ _ hbg
    have hym : mod0.code = y := Option.some.inj (m0T_den.symm.trans hcx)
    obtain ⟨rfl, rfl, rfl⟩ : Q = mod0.Q ∧ M = mod0.M ∧ S = mod0.S := by
      have h1 := congrArg Mod.of (hym.trans hy)
      rw [Mod.of_code, show encL [encL Q, encL M, encL S] = (⟨Q, M, S⟩ : Mod).code from rfl, Mod.of_code] at h1
      rw [h1]; exact ⟨rfl, rfl, rfl⟩
    have q := List.all_eq_true.1 h5 (0, bL) (List.mem_singleton.2 rfl)
    obtain ⟨r0, hg0⟩ : ∃ r, H.get 0 = some ⟨bL, r⟩ := by
      split at q
      · rename_i k hk
        obtain ⟨kk, rr⟩ := k
        have hkk : kk = bL := ABlk.beq_eq q
        subst hkk
        exact ⟨rr, hk⟩
      · cases q
    obtain ⟨b0, ob0, hN0, hob0, hr0⟩ := hh.blk _ _ hg0
    have hn1 : 1 ≤ d.n := by have := ok.kl; rw [hl] at this; exact this
    obtain ⟨o0, c0, av0, _⟩ := avr_of (l := 0) (on := 62) (nn := 36) (cn := 63) d0 hN0 hob0 hr0 (Option.some.inj (pX hd)) (Option.some.inj (pN hd)) hn1 ok.lx
    have hmu1 : 1 ≤ (muA d).length := List.length_pos_iff.2 hmu
    have ls0 : ls ≠ 0 := fun he => by rw [he, hg0] at hs; simp [sB, bL] at hs
    have ls17 : ls ≠ 17 := fun he => by rw [he, hll] at hs; simp [sB, rwB] at hs
    have ls19 : ls ≠ 19 := fun he => by rw [he, hlm] at hs; simp [sB, rwB] at hs
    have ne2 : ∀ {l k x}, H.get l = some k → ρ.N l = some x → ls ≠ l → b ≠ x := fun {l k x} hl hx hne he => hne (hh.inj ls l _ _ hs hl rfl (by rw [hNs, hx, he]))
    have farm : ∀ {l k x}, H.get l = some k → k.k.nb = true → ρ.N l = some x → ¬ Fp lm x := fun {l k x} hl hnb hx hF => by
      refine (hB.apart lm l 0 _ _ _ hbg hl (fun he => ?_) x hF).1 hx
      rw [← he, hbg] at hl
      cases hl; cases hnb
    have hx' : AVal.denL ρ [.ptr ls (.lit 0), .ptr lm (.lit 0)] = some [.pointer (some ⟨b, 0, none⟩), .pointer (some ⟨bo, 0, none⟩)] := denL2 (by simp only [AVal.den, hNs]; rfl) (by simp only [AVal.den, hNo]; rfl)
    obtain rfl : _ = xs := Option.some.inj (hx'.symm.trans hx)
    have hlen60 : (lfA d).length ≤ 60 := (sok ok hl hmu (q := (muA d).length) (Nat.le_refl _)).l
    have hmc : (muA d).length ≤ capM := by
      have := hpM.length_le
      rw [List.length_map, Array.length_toList] at this
      rw [← hszM]; exact this
    have av1 : AVr w [.i64] (.slice (some ⟨bm', 0, none⟩) (muA d).length capM) (d1 d capM).m bm' 0 (d1 d capM).q (decL (d1 d capM).y) := by
      refine ⟨rfl, hmu1, ?_, cM, frM, 3, hom, Nat.zero_le _, ?_⟩
      · show (decL (encL (muA d))).length = (muA d).length * 1
        rw [decL_encL, Nat.mul_one]
      · show rowOf [.i64] (decL (encL (muA d))) <+: _
        rw [decL_encL, List.drop_zero, rowOf1]; exact hpM
    have hcall := on21 (d1 d capM) (lfA d).length w [] (lfA d) mod0 b v0 _ none bo (Fp lm) b0 o0 c0 bm' 0 bl' capL rfl (sok ok hl hmu hmc) (by simp only [List.length_nil]; omega) av0 av1 ⟨cL, frL, 3, hol, hpL⟩ ⟨cc, fr, _, hos, hcl, hfr rfl, rfl, rfl⟩ s mok (ne2 hg0 hN0 ls0) (ne2 hlm hNm ls19) (ne2 hll hNl ls17) (fun a ha => by cases ha) (farm hs rfl hNs) (farm hg0 rfl hN0) (farm hlm rfl hNm) (farm hll rfl hNl)
    have hres : onP (d1 d capM) ((lfA d).length + 1) mod0 [] (lfA d) = sRes d := by rw [onP_q]; rfl
    rw [hres] at hcall
    have e77 : (IT.var 77).den ρ = some (if (sRes d).isSome then 1 else 0) := pinX hg (by simp [pinsX])
    refine hcall.mono fun r w' ⟨v, he, post⟩ => ?_
    obtain ⟨oA', hoA, hnone, hsome⟩ := post.ex
    have same' : ∀ y, y < w.heap.size → y ≠ b → y ≠ bl' → w'.heap[y]? = w.heap[y]? := fun y hy hy1 _ => post.same y hy hy1 (fun h => by cases h)
    have hbl : w'.heap[bl']? = some (.cells cL 3 frL) := by
      rw [post.same bl' (hh.lt hll hNl) (fun h => ne2 hll hNl ls17 h.symm) (fun h => by cases h)]; exact hol
    split at hr
    · rename_i hlook
      cases hr
      have hlk := lookB_ok hlook hc
      unfold onF at hlk
      rw [cmpD e77 (litD 1)] at hlk
      obtain ⟨R, hR⟩ : ∃ R, sRes d = some R := by
        cases hrct : sRes d with
        | some R => exact ⟨R, rfl⟩
        | none => rw [hrct] at hlk; simp [intCmp] at hlk
      obtain ⟨c2', fr2, vo2, rest, hos2, hcl2, hfr2, hord2⟩ := hsome R hR
      have hRne : R ≠ [] := fun h0 => by
        have hp := onP_done (d := d1 d 0) hR
        rw [h0] at hp
        unfold doneP at hp
        have : anyT (doneQ (d1 d 0) []) (d1 d 0).m = true := anyT_true (i := 0) hmu1 rfl
        rw [this] at hp; cases hp
      cases hoA2 : oA' with
      | none => rw [hoA2] at hord2; exact absurd hord2.2 hRne
      | some a2 =>
        rw [hoA2] at hord2
        obtain ⟨cap2, rfl, c3, fr3, hor, hpr, hsz3, hfr3⟩ := hord2
        have ha2 : a2 = bl' ∨ w.heap.size ≤ a2 := .inr ((hoA a2 hoA2).resolve_left (fun h => by cases h))
        have k1 := (hh.num cap2).num c2'.size
        have l1 := Env.le_put (b := cap2) (hh.fresh nl (Nat.le_refl _))
        have l2 := Env.le_put (b := c2'.size) ((hh.num cap2).fresh (nl + 1) (Nat.le_refl _))
        have l3 := Env.le_put (b := a2) (k1.fresh (nl + 1 + 1) (Nat.le_refl _))
        have l12 := l1.trans l2
        have hall := l12.trans l3
        have e75 : (IT.var 75).den ρ = some (encL R) := by
          have : (IT.var 75).den ρ = some (encL ((sRes d).getD [])) := pinX hg (by simp [pinsX])
          rw [hR] at this; exact this
        have e76 : (IT.var 76).den ρ = some (R.length : Int) := by
          have : (IT.var 76).den ρ = some (((sRes d).getD []).length : Int) := pinX hg (by simp [pinsX])
          rw [hR] at this; exact this
        have q75 := IT.den_mono hall e75
        have q76 := IT.den_mono hall e76
        have qn : (((ρ.put nl cap2).put (nl + 1) c2'.size).put (nl + 1 + 1) a2).N nl = some cap2 := l3.n _ _ (l2.n _ _ (Env.put_same ..))
        have qn1 : (((ρ.put nl cap2).put (nl + 1) c2'.size).put (nl + 1 + 1) a2).N (nl + 1) = some c2'.size := l3.n _ _ (Env.put_same ..)
        have qs : (AVal.slice (nl + 2) (.lit 0) (.var 76) (.nv nl)).den (((ρ.put nl cap2).put (nl + 1) c2'.size).put (nl + 1 + 1) a2) = some (.slice (some ⟨a2, 0, none⟩) R.length cap2) := den_slice_of (Env.put_same ..) rfl q76 (nvD qn)
        have qm : mS.den (((ρ.put nl cap2).put (nl + 1) c2'.size).put (nl + 1 + 1) a2) = some (.slice (some ⟨bm', 0, none⟩) (muA d).length capM) := AVal.den_mono hall _ d1'
        have hc2s : 3 ≤ c2'.size := by
          have : c2'.toList.length = rest.length + 3 := by rw [hcl2]; rfl
          rw [Array.length_toList] at this
          omega
        have h3 := k1.take2 (ls := ls) (lo := 17) hs rfl rfl (l12.n _ _ hNs) hll rfl (l12.n _ _ hNl) (fun h => ls17 h.symm) post.size same' post.tape post.os post.out (a := a2) ha2 hor hos2 (ko' := (orB nl (.var 75) (.var 76)).k) (ks' := .cells [SL .row, mS, .slice (nl + 2) (.lit 0) (.var 76) (.nv nl)] 56 (some (nl + 1, 1)))
          (orB_rel hpr hsz3 hfr3 q75 q76 qn) ⟨[v0, .slice (some ⟨bm', 0, none⟩) (muA d).length capM, .slice (some ⟨a2, 0, none⟩) R.length cap2], c2', fr2, rfl, by simp only [AVal.denL, AVal.den_mono hall _ d0, qm, qs], by rw [hcl2]; exact ⟨rest, rfl⟩, ⟨hc2s, c2'.size, qn1, by rw [Nat.mul_one]⟩, fun _ => hfr2⟩ rfl rfl
        exact ⟨v, he, _, _, _, _, _, List.mem_cons_self, hall, by rw [post.val, hR]; rfl, h3, hc.mono hall⟩
    · rename_i hlook
      cases hr
      have hlk := lookB_ok hlook hc
      unfold onF at hlk
      rw [cmpD e77 (litD 1)] at hlk
      have hR : sRes d = none := by
        cases hrct : sRes d with
        | some R => rw [hrct] at hlk; simp [intCmp] at hlk
        | none => rfl
      obtain ⟨c2', fr2, vo2, hos2, hcl2, hfr2, _⟩ := hnone hR
      have k1 := (hh.num 0).num c2'.size
      have l1 := Env.le_put (b := 0) (hh.fresh nl (Nat.le_refl _))
      have l2 := Env.le_put (b := c2'.size) ((hh.num 0).fresh (nl + 1) (Nat.le_refl _))
      have l3 := Env.le_put (b := bl') (k1.fresh (nl + 1 + 1) (Nat.le_refl _))
      have l12 := l1.trans l2
      have hall := l12.trans l3
      have qn1 : (((ρ.put nl 0).put (nl + 1) c2'.size).put (nl + 1 + 1) bl').N (nl + 1) = some c2'.size := l3.n _ _ (Env.put_same ..)
      have qm : mS.den (((ρ.put nl 0).put (nl + 1) c2'.size).put (nl + 1 + 1) bl') = some (.slice (some ⟨bm', 0, none⟩) (muA d).length capM) := AVal.den_mono hall _ d1'
      have hc2s : c2'.size = 4 := by
        have : c2'.toList.length = 4 := by rw [hcl2]; rfl
        simpa using this
      have h3 := k1.take2 (ls := ls) (lo := 17) hs rfl rfl (l12.n _ _ hNs) hll rfl (l12.n _ _ hNl) (fun h => ls17 h.symm) post.size same' post.tape post.os post.out (a := bl') (.inl rfl) hbl hos2 (ko' := (rwB 20 21 18).k) (ks' := .cells [SL .row, mS] 56 (some (nl + 1, 1)))
        (ABlk.rel_mono hall hrl) ⟨[v0, .slice (some ⟨bm', 0, none⟩) (muA d).length capM], c2', fr2, rfl, by simp only [AVal.denL, AVal.den_mono hall _ d0, qm], by rw [hcl2]; exact ⟨_, rfl⟩, ⟨by rw [hc2s]; show 2 ≤ 4; omega, c2'.size, qn1, by rw [Nat.mul_one]⟩, fun _ => hfr2⟩ rfl rfl
      exact ⟨v, he, _, _, _, _, _, List.mem_cons_self, hall, by rw [post.val, hR]; rfl, h3, hc.mono hall⟩
    · cases hr
end
end Ls
end Go.Proofs.Ytpgonpjakllnjaa
end
end

/-
  LinearSearch (16): Search's runs.
-/
section
namespace Go.Proofs.Ytpgonpjakllnjaa
open Go.Vm Go.Vm.Md Lm Lt
namespace Ls

noncomputable def L7 : Code := lb Try.f7 0
noncomputable def Q7 : List Item := lq Try.f7 0
noncomputable def R7 (pl : PL) (sp : CallF) (q : Kq) (c : Cs) (l : LM) : Prop := (run Try.prog [] sp 4000 pl 7 ((⟨(TSe q).tm, (TSe q).nt, (TSe q).H, (TSe q).nl, c ++ (TSe q).cs, (TSe q).dep⟩ : Tpl).st (.code L7 :: .inLoop L7 :: Q7))).map (·.filterMap (sumMD gM [] rsS tsS)) = some [l]
noncomputable def R7i (pl : PL) (sp : CallF) (k : Kd) (l : LM) : Prop := (run Try.prog [] sp 4000 pl 7 (entry Try.f7 (Try.f7.body.getD .ret) [SL k] (ofP (Lt.roH (EL k))) 100 (csL k))).map (·.filterMap (sumMD gM [] rsS tsS)) = some [l]
def qS : Kq → Nat
  | .rr => 0
  | .nr => 1
  | .nn => 2
def iQ : Kq → List (Nat × IT)
  | .rr => [(23, .var 23), (21, .var 21), (20, .var 20), (22, .var 22)]
  | .nr => [(21, .var 21), (20, .var 20)]
  | .nn => []
def nQ : Kq → List (Nat × Nat)
  | .rr => [(19, 19), (20, 20), (17, 17), (18, 18)]
  | .nr => [(17, 17), (18, 18)]
  | .nn => []
def n0S : List (Nat × Nat) := [(0, 0), (14, 14), (15, 15), (16, 16)]
def s7a : Sub := ⟨[(9, .lit 0)], [], [], [], [(0, 0), (14, 100), (15, 102), (16, 101)]⟩
/-- On, nothing added. -/
def s7k (q : Kq) : Sub := ⟨(9, up9) :: iQ q, [], [], [], n0S ++ nQ q⟩
def u21 : IT := .bin .add .i64 (.var 21) (.lit 1)
def u23 : IT := .bin .add .i64 (.var 23) (.lit 1)
def lA : IT := .un 3 (.var 20) vT
def mA : IT := .un 3 (.var 22) vT
def l1T : IT := .un 3 (.lit 0) vT
/-- One more to both. -/
def s7c : Kq → Sub
  | .nn => ⟨[(9, up9), (23, .lit 1), (21, .lit 1), (20, l1T), (22, l1T)], [], [], [], n0S ++ [(19, 208), (20, 207), (17, 204), (18, 203)]⟩
  | .nr => ⟨[(9, up9), (23, .lit 1), (21, u21), (20, lA), (22, l1T)], [], [], [], n0S ++ [(19, 208), (20, 207), (17, 204), (18, 203)]⟩
  | .rr => ⟨[(9, up9), (23, u23), (21, u21), (20, lA), (22, mA)], [], [], [], n0S ++ [(19, 208), (20, 207), (17, 204), (18, 203)]⟩
def qD7 : Kq → Nat
  | .rr => 0
  | _ => 1
def kD7 : Kq → Kq
  | .rr => .rr
  | _ => .nr
/-- One more that is left. -/
def s7d : Kq → Sub
  | .nn => ⟨[(9, up9), (21, .lit 1), (20, l1T)], [], [], [], n0S ++ [(17, 204), (18, 203)]⟩
  | .nr => ⟨[(9, up9), (21, u21), (20, lA)], [], [], [], n0S ++ [(17, 204), (18, 203)]⟩
  | .rr => ⟨[(9, up9), (23, .var 23), (21, u21), (20, lA), (22, .var 22)], [], [], [], n0S ++ [(19, 19), (20, 20), (17, 204), (18, 203)]⟩
def s7y : Sub := ⟨[(22, .var 76), (23, .var 75)], [], [], [], [(13, 207), (12, 206)]⟩
def sN0 : Sub := ⟨[], [], [], [], []⟩
def go7 : Cs := lt9 (.var 48) true ++ Lt.inL vT
def e7 (b : Bool) : Cs := [q9 .lss at9 (.var 48) false, q9 .gtr (.var 48) (.lit 8) b]
theorem s_in : R7i true (spSn false) .row (.next 2 (.code (.loop L7) :: Q7) [] s7a) := by unfold R7i; kernel_rfl
theorem s_nil : R7i (PL.only []) (spSn true) .row (.done 1 [] sN0) := by unfold R7i; kernel_rfl
theorem s_none (k : Kd) (h : k ≠ .row) : R7i (PL.only []) (spL [(10, spNew)]) k (.done 1 [] sN0) := by unfold R7i; cases k <;> first | exact absurd rfl h | kernel_rfl
theorem s_A (q : Kq) : R7 true (spSn false) q (go7 ++ fA vT) (.next (qS q) (.inLoop L7 :: Q7) [] (s7k q)) := by unfold R7; cases q <;> kernel_rfl
theorem s_B (q : Kq) : R7 true (spSn false) q (go7 ++ fB vT) (.next (qS q) (.inLoop L7 :: Q7) [] (s7k q)) := by unfold R7; cases q <;> kernel_rfl
theorem s_C (q : Kq) : R7 true (spSn false) q (go7 ++ fC vT) (.next 0 (.inLoop L7 :: Q7) [] (s7c q)) := by unfold R7; cases q <;> kernel_rfl
theorem s_D (q : Kq) : R7 true (spSn false) q (go7 ++ fD vT) (.next (qD7 q) (.inLoop L7 :: Q7) [] (s7d q)) := by unfold R7; cases q <;> kernel_rfl
theorem s_many (q : Kq) : R7 (PL.only []) (spSn false) q (e7 true) (.done 2 [] sN0) := by unfold R7; cases q <;> kernel_rfl
theorem s_few (q : Kq) (h : q ≠ .rr) : R7 (PL.only []) (spSn false) q (e7 false) (.done 1 [] sN0) := by unfold R7; cases q <;> first | exact absurd rfl h | kernel_rfl
theorem s_yes : R7 (PL.only []) (spSe false) .rr (e7 false ++ (csFn ++ [(onF, true)])) (.done 0 [] s7y) := by unfold R7; kernel_rfl
theorem s_no : R7 (PL.only []) (spSe false) .rr (e7 false ++ (csFn ++ [(onF, false)])) (.done 2 [] sN0) := by unfold R7; kernel_rfl
end Ls
end Go.Proofs.Ytpgonpjakllnjaa
end
