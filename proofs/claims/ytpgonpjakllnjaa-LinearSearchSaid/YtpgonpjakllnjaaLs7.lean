/-
  LinearSearch (6): the heads of 'on', and what it calls.
-/
import Derived.Test.YtpgonpjakllnjaaLs5
import Derived.Test.YtpgonpjakllnjaaLy1
section
namespace Go.Proofs.Ytpgonpjakllnjaa
open Go.Vm Go.Vm.Md Lm Lt
namespace Ls

def spIx (z : Bool) : SpG := fun args H nl cs => match args with
  | [v, .func (.func 63) [] [.ptr a (.lit (.ofNat 0))]] => cond (AVal.beq v (SO .row) && (hasE (e63 z) H && (Nat.ble nl 500 && (lookC (csO3 z) cs && cellB H a (.ptr 2 (.lit 0)) 54)))) (some [.ret (.int .i64 (.var 70)) H nl cs]) none
  | [v, .func (.func 65) [] [.ptr b (.lit (.ofNat 0)), .ptr a (.lit (.ofNat 0))]] => match intC H b with
    | some u => cond (AVal.beq v lv && (hasE (e65 z) H && (Nat.ble nl 500 && (lookC (Lt.inL u) cs && cellB H a (.ptr 2 (.lit 0)) 54)))) (some [.ret (.int .i64 (.fn 86 u (.lit 0))) H nl cs]) none
    | none => none
  | _ => none
def lnT : IT := .bin .sub .i64 (.var 67) (.lit 1)
def cpB (c : Nat) : ABlk := .arr (.code [.i64] (.var 66)) [.i64] 3 (.var 67) (.lit 0) (some (.nv c))
def deB (c : Nat) : ABlk := .arr (.code [.i64] (.fn 81 at9 (.lit 0))) [.i64] 3 lnT (.lit 0) (some (.nv c))
def mxT (c : Nat) : BT × Bool := q9 .leq (.nv c) (.lit 9223372036854775807) true
def spCl : SpG := fun args H nl cs => match args with
  | [v] => cond (AVal.beq v lv && hasE [(4, bL4)] H) (some [.ret (.slice (nl + 1) (.lit 0) (.var 67) (.nv nl)) (H.set (nl + 1) ⟨cpB nl, true⟩) (nl + 2) (mxT nl :: cs)]) none
  | _ => none
def spDel : SpG := fun args H nl cs => match args with
  | [.slice l (.lit (.ofNat 0)) n (.nv c), .int .i64 t, .int .i64 t'] => match H.get l with
    | some ⟨k, true⟩ => cond (IT.beq n (.var 67) && (IT.beq t at9 && (IT.beq t' up9 && (ABlk.beq k (cpB c) && lookC [q9 .lss at9 (.var 67) true, q9 .geq at9 (.lit 0) true, mxT c] cs))))
      (some [.ret (.slice l (.lit 0) lnT (.nv c)) (H.set l ⟨deB c, true⟩) nl cs]) none
    | _ => none
  | _ => none
def vL : IT := lT at9
def modT : IT := .fn 72 (.var 68) (opT (rT vL 2) (rT vL 3) (rT vL 4) (rT vL 5))
def onT : BT := .cmp .eql (.fn 82 at9 (.lit 0)) (.lit 1)
def nO1 : Bool → IT
  | false => .lit 1
  | true => .bin .add .i64 (.var 20) (.lit 1)
def cO0 : Bool → IT
  | false => .lit 0
  | true => .var 21
def boO (c : Nat) : Bool → ABlk
  | false => .cells [.int .i64 vL] 3 (some (c, 1))
  | true => .arr (.snoc (.code [.i64] (.var 21)) [.int .i64 vL]) [.i64] 3 (nO1 true) (.lit 0) (some (.nv c))
def orB (c : Nat) (x n : IT) : HB := ⟨.arr (.code [.i64] x) [.i64] 3 n (.lit 0) (some (.nv c)), true⟩
def onYes (H : Heap) (lo nl : Nat) : Heap := ((H.del lo).set (nl + 2) (orB nl (.fn 83 at9 (.lit 0)) (.fn 84 at9 (.lit 0)))).set 2 ⟨.cells [SL .row, SO .row, .slice (nl + 2) (.lit 0) (.fn 84 at9 (.lit 0)) (.nv nl)] 56 (some (nl + 1, 1)), true⟩
def n71 : IT := .bin .add .i64 (.var 71) (.lit 1)
def lesT : IT := .bin .sub .i64 n71 (.lit 1)
def onNo (z : Bool) (H : Heap) (lo ll cl nl : Nat) : Heap := ((H.del lo).set (nl + 2) (orB nl (cO0 z) lesT)).set 2 ⟨.cells [SL .row, SO .row, .slice (nl + 2) (.lit 0) n71 (.nv nl), .slice ll (.lit 0) lnT (.nv cl)] 56 none, true⟩
def csNo (nl : Nat) : Cs := [q9 .leq (.lit 0) lesT true, q9 .leq lesT (.nv nl) true]
def csOn (z : Bool) : Cs := [q9 .lss at9 (.var 67) true, q9 .geq at9 (.lit 0) true] ++ csO3 z
def spOn (z : Bool) : SpG := fun args H nl cs => match args with
  | [.ptr 2 (.lit (.ofNat 0)), .ptr lm (.lit (.ofNat 0))] => match H.get 2, bigM H lm with
    | some ⟨.cells [a, b, .slice lo (.lit (.ofNat 0)) no (.nv co), .slice ll (.lit (.ofNat 0)) n1 (.nv cl)] 56 none, true⟩, some c => match H.get lo, H.get ll with
      | some ⟨bo, true⟩, some ⟨bl, _⟩ => cond (AVal.beq a (SL .row) && (AVal.beq b (SO .row) && (IT.beq c modT && (IT.beq no (nO1 z) && (ABlk.beq bo (boO co z) && (IT.beq n1 lnT && (ABlk.beq bl (deB cl) && (hasE [(0, bL), (1, bO)] H && lookC (csOn z) cs))))))))
          (match lookB cs onT with
            | some true => some [.ret (.bool (.lit true)) (onYes H lo nl) (nl + 3) cs]
            | some false => some [.ret (.bool (.lit false)) (onNo z H lo ll cl nl) (nl + 3) (csNo nl ++ cs)]
            | none => none) none
      | _, _ => none
    | _, _ => none
  | _ => none
-- HEADS
def stB (z : Bool) : HB := ⟨bS z, true⟩
def e3 (z : Bool) : List (Nat × HB) := match z with
  | false => []
  | true => [(5, orB 10 (.var 21) (.var 20))]
def hOn (z : Bool) : List (Nat × HB) := [(2, stB z), (0, ⟨bL, false⟩), (1, ⟨bO, false⟩), (4, ⟨bL4, false⟩), (12, ⟨.big 0 (.var 68), false⟩)] ++ e3 z
def csT (z : Bool) : Cs := csE .row .row ++ csN (.var 67) ++ csO3 z
def TOn (z : Bool) : Tpl := ⟨[(0, .ptr 2 (.lit 0)), (1, .ptr 12 (.lit 0)), (15, lv), (16, iV 67), (17, iV 9)], 103, hOn z, 300, cs9 (.var 67) ++ csT z, 3⟩
def spZ (z : Bool) : CallF := spL [(67, spIx z), (46, spClo), (11, spApply), (22, spCl), (47, spDel), (21, spOn z)]
/-- The ends: found; as it was. -/
def EYes : Tpl := ⟨[(0, .bool (.lit true))], 1, [(2, ⟨.cells [SL .row, SO .row, .slice 5 (.lit 0) (.var 20) (.nv 10)] 56 (some (13, 1)), true⟩), (5, orB 10 (.var 21) (.var 20))], 300, [], 0⟩
def EAs (z : Bool) (b : Bool) : Tpl := ⟨[(0, .bool (.lit b))], 1, [(2, stB z)] ++ e3 z, 300, [], 0⟩
def rsOn : List Tpl := [EYes, EAs true true, EAs true false, EAs false true, EAs false false]
end Ls
end Go.Proofs.Ytpgonpjakllnjaa
end

/-
  LinearSearch (7): Clone and Delete of what is left.
-/
section
namespace Go.Proofs.Ytpgonpjakllnjaa
open Go.Vm Go.Vm.Md Lm Lt
namespace Ls

theorem framedB {w w' : World} (h : Go.RowKit.Below w.heap.size w w') : Framed w w' := by
  obtain ⟨h1, h2, h3, h4, h5⟩ := h
  exact ⟨h4, h5, h2, h1, h3⟩
theorem pre_get {L : List Int} {c : Array Value} (h : rowOf [.i64] L <+: c.toList.drop 0) {j : Nat} (hj : j < L.length) : c[j]? = some (.int .i64 (L.getD j 0)) := by
  rw [List.drop_zero, rowOf1] at h
  obtain ⟨t, ht⟩ := h
  rw [← Array.getElem?_toList, ← ht, List.getElem?_append_left (by simpa using hj), List.getElem?_map, List.getElem?_eq_getElem hj]
  simp [List.getD_eq_getElem?_getD, List.getElem?_eq_getElem hj]
theorem at_of {e : Sd} {vm : Value} {ρ : Env} (hg : (Gs e vm).at ρ) {C cs : Cs} (h : lookC ([q9 .lss at9 (.var 67) true, q9 .geq at9 (.lit 0) true] ++ C) cs = true) (hc : CRel ρ cs) : ∃ t : Nat, ρ.I 9 = (t : Int) ∧ t < e.L.length := by
  obtain ⟨c2', _⟩ := CRel_app.1 (lookC_ok h hc)
  have a1 := c2' _ List.mem_cons_self
  have a2 := c2' _ (List.mem_cons_of_mem _ List.mem_cons_self)
  simp only [q9] at a1 a2
  rw [cmpD (show at9.den ρ = some (ρ.I 9) from varD rfl) (pLn hg)] at a1
  rw [cmpD (show at9.den ρ = some (ρ.I 9) from varD rfl) (litD 0)] at a2
  simp only [intCmp, Option.some.injEq, decide_eq_true_eq] at a1 a2
  exact ⟨(ρ.I 9).toNat, by omega, by omega⟩
theorem ln_den {e : Sd} {vm : Value} {ρ : Env} (hg : (Gs e vm).at ρ) (hl : e.L.length ≤ 60) (h1 : 1 ≤ e.L.length) : lnT.den ρ = some ((e.L.length - 1 : Nat) : Int) := by
  have e67 := pLn hg
  have hw : IntKind.i64.wrap ((e.L.length : Int) - 1) = ((e.L.length - 1 : Nat) : Int) := by
    have := wrap_in .i64 ((e.L.length - 1 : Nat) : Int) (by simp only [lo]; omega) (by simp only [hi]; omega)
    rw [← this]; congr 1; omega
  unfold lnT
  have h67 : ρ.I 67 = (e.L.length : Int) := Option.some.inj e67
  simp only [IT.den]
  rw [h67]
  exact congrArg some hw
section
variable {e : Sd} {vm : Value} {β : Base} (hβ : β.G = Gs e vm)
include hβ
theorem spCl_ok (hl : e.L.length ≤ 60) : SpGOk Try.prog β 22 spCl := by
  intro args H nl cs ls ρ w xs hr hx hh hc
  have hg : (Gs e vm).at ρ := by have := hh.g; rw [hβ] at this; exact this
  unfold spCl at hr
  split at hr
  rotate_left
  · cases hr
  rename_i v
  cases hb : (AVal.beq v lv && hasE [(4, bL4)] H) with
  | false => rw [hb] at hr; cases hr
  | true =>
    rw [hb] at hr; simp only [cond_true, Option.some.injEq] at hr
    subst hr
    simp only [Bool.and_eq_true] at hb
    obtain ⟨h1, h2⟩ := hb
    obtain rfl := AVal.beq_eq _ _ h1
    have h3 := List.all_eq_true.1 h2 _ (List.mem_singleton.2 rfl)
    split at h3
    rotate_left
    · cases h3
    rename_i k hk
    obtain ⟨b, o, hN, ho, hrel⟩ := hh.blk _ _ hk
    rw [ABlk.beq_eq h3] at hrel
    obtain ⟨ys, c, fr, el, m, b0, rfl, _, hd, hoff, ⟨_, hp⟩, _, _, _, _⟩ := hrel
    obtain rfl : b0 = 0 := by have := Option.some.inj hoff; exact (Int.ofNat.inj this).symm
    have e66 := pL hg
    have e67 := pLn hg
    have hcode : ∀ {ρ' : Env}, ρ.Le ρ' → (AT.code [.i64] (.var 66)).den ρ' = some (rowOf [.i64] e.L) := fun h => by simp only [AT.den, IT.den_mono h e66, Option.map_some, decL_encL]
    obtain rfl : ys = _ := Option.some.inj (hd.symm.trans (hcode (Env.Le.refl ρ)))
    simp only [AVal.denL] at hx
    cases hv : lv.den ρ with
    | none => rw [hv] at hx; cases hx
    | some sv =>
    rw [hv] at hx; cases hx
    obtain ⟨bb, oo, n, cap, rfl, g1, g2, g3, g4⟩ := den_slice (show (AVal.slice 4 (.lit 0) (.var 67) (.nv 11)).den ρ = some sv from hv)
    rw [hN] at g1; cases g1
    obtain rfl : oo = 0 := by have := Option.some.inj g2; exact (Int.ofNat.inj this).symm
    obtain rfl : n = e.L.length := by have := Option.some.inj (g3.symm.trans e67); exact Int.ofNat.inj this
    refine (Go.Proofs.AnyG.slices_Clone_int cloA b 0 e.L.length cap e.L w (Nat.le_refl _) (by omega) (fun j hj => by rw [Nat.zero_add, cell_of w ho]; exact pre_get hp hj)).mono fun r w' ⟨v', he, hrow, hnn, hbel⟩ => ?_
    have hf := framedB hbel
    obtain ⟨_, h⟩ := hrow
    rcases h with ⟨q, _⟩ | ⟨g, cp, cur, rfl, hge, hcur, hle1, hle2, hsz, htk⟩
    · exact absurd q hnn
    have h0 := hh.num cp
    have hle := Env.le_put (b := cp) (hh.fresh nl (Nat.le_refl _))
    have hle2' := Env.le_put (b := g) (h0.fresh (nl + 1) (Nat.le_refl _))
    have hall := hle.trans hle2'
    have enl : (IT.nv nl).den ((ρ.put nl cp).put (nl + 1) g) = some (cp : Int) := nvD (hle2'.n _ _ (Env.put_same ..))
    have h1 := h0.adopt hf (b := g) hge hcur (k := cpB nl) (rw := true) ⟨rowOf [.i64] e.L, cur, (0, 0), 3, e.L.length, 0, rfl, fun _ => rfl, hcode hall, rfl, ⟨Nat.zero_le _, by
      rw [List.drop_zero, rowOf1]
      have : e.L.map (Value.int .i64) = (e.L.take e.L.length).map (Value.int .i64) := by rw [List.take_length]
      rw [this, ← htk]; exact List.take_prefix _ _⟩, IT.den_mono hall e67, rowOf_typed (by simp), ⟨cp, enl, by simpa using hsz⟩, fun _ => .inl (Nat.le_refl _)⟩
    refine ⟨_, he, _, _, _, _, (ρ.put nl cp).put (nl + 1) g, List.mem_cons_self, hall, den_slice_of (Env.put_same ..) rfl (IT.den_mono hall e67) enl, h1, ?_⟩
    exact c1 (by rw [cmpD enl (litD _)]; simp only [intCmp, Option.some.injEq, decide_eq_true_eq]; unfold maxLen at hle2; omega) (hc.mono hall)
theorem spDel_ok (hl : e.L.length ≤ 60) : SpGOk Try.prog β 47 spDel := by
  intro args H nl cs ls ρ w xs hr hx hh hc
  have hg : (Gs e vm).at ρ := by have := hh.g; rw [hβ] at this; exact this
  unfold spDel at hr
  split at hr
  rotate_left
  · cases hr
  rename_i l n c t t'
  split at hr
  rotate_left
  · cases hr
  rename_i k hk
  cases hb : (IT.beq n (.var 67) && (IT.beq t at9 && (IT.beq t' up9 && (ABlk.beq k (cpB c) && lookC [q9 .lss at9 (.var 67) true, q9 .geq at9 (.lit 0) true, mxT c] cs)))) with
  | false => rw [hb] at hr; cases hr
  | true =>
    rw [hb] at hr; simp only [cond_true, Option.some.injEq] at hr
    subst hr
    simp only [Bool.and_eq_true] at hb
    obtain ⟨h1, h2, h3, h4, h5⟩ := hb
    obtain rfl := IT.beq_eq h1
    obtain rfl := IT.beq_eq h2
    obtain rfl := IT.beq_eq h3
    obtain rfl := ABlk.beq_eq h4
    obtain ⟨i, hi, hlt⟩ := at_of hg (C := [mxT c]) h5 hc
    have e9 : at9.den ρ = some (i : Int) := varD hi
    have e10 : up9.den ρ = some ((i + 1 : Nat) : Int) := upD e9 (by omega)
    obtain ⟨b, o, hN, ho, hrel⟩ := hh.blk _ _ hk
    obtain ⟨ys, cc, fr, el, m, b0, rfl, hel, hd, hoff, ⟨hsz0, hp⟩, _, _, ⟨cap, hcap, hroom⟩, hfr⟩ := hrel
    obtain rfl := hel rfl
    obtain rfl : b0 = 0 := by have := Option.some.inj hoff; exact (Int.ofNat.inj this).symm
    have e66 := pL hg
    have e67 := pLn hg
    have hcode : (AT.code [.i64] (.var 66)).den ρ = some (rowOf [.i64] e.L) := by simp only [AT.den, e66, Option.map_some, decL_encL]
    obtain rfl : ys = _ := Option.some.inj (hd.symm.trans hcode)
    have hcs : cc.size = cap := by have : cc.size - 0 = cap * 1 := hroom; omega
    have hcapn : cap ≤ 9223372036854775807 := by
      have h6 := (lookC_ok h5 hc) (mxT c) (by simp)
      simp only [mxT, q9] at h6
      rw [cmpD hcap (litD _)] at h6
      simp only [intCmp, Option.some.injEq, decide_eq_true_eq] at h6
      omega
    have hLc : e.L.length ≤ cap := by
      have := hp.length_le
      rw [rowOf_length, List.drop_zero, Array.length_toList] at this
      omega
    have hx' : AVal.denL ρ [.slice l (.lit 0) (.var 67) (.nv c), .int .i64 at9, .int .i64 up9] = some [.slice (some ⟨b, 0, none⟩) e.L.length cap, .int .i64 i, .int .i64 (i + 1 : Nat)] := by
      have q1 := den_slice_of (l := l) (off := .lit 0) (len := .var 67) (cap := .nv c) hN (o := 0) rfl e67 hcap
      simp only [AVal.denL, q1]
      simp only [AVal.den, e9, e10, Option.map_some]
    obtain rfl : _ = xs := Option.some.inj (hx'.symm.trans hx)
    have hH : Go.Sort.Holds (Value.int .i64) w b 0 e.L.toArray := fun j hj => by
      have hj' : j < e.L.length := by simpa using hj
      refine ⟨?_, ?_⟩
      · rw [Nat.zero_add, cell_of w ho, pre_get hp hj', getElem!_pos e.L.toArray j hj]
        simp [List.getD_eq_getElem?_getD, List.getElem?_eq_getElem hj']
      · have hf := hfr rfl
        simp only [World.frozen?, ho]
        rw [Bool.eq_false_iff]; simp; unfold FrOk at hf; omega
    refine (Go.Proofs.AnyG.slices_Delete_int delA b 0 cap i (i + 1) e.L w hH hLc hcapn (Nat.le_succ _) hlt).mono fun r w' ⟨he, q, hw⟩ => ?_
    have hD : e.L.take i ++ e.L.drop (i + 1) ++ List.replicate (i + 1 - i) 0 = e.L.eraseIdx i ++ [0] := by
      rw [List.eraseIdx_eq_take_drop_succ, show i + 1 - i = 1 by omega]; rfl
    have hlen : (e.L.eraseIdx i).length = e.L.length - 1 := List.length_eraseIdx_of_lt hlt
    rw [hD] at hw
    obtain ⟨D, hDd⟩ : ∃ D : Array Int, D = (e.L.eraseIdx i ++ [0]).toArray := ⟨_, rfl⟩
    have hDs : D.size = e.L.length := by rw [hDd]; simp [hlen]; omega
    have hheap : w'.heap = w.heap.setIfInBounds b (.cells (Go.Sort.putCells (Value.int .i64) 0 D cc) 3 fr) := by
      rw [hw, ← hDd]
      apply Array.ext_getElem?
      intro j
      simp only [Go.Sort.putRow, Go.Sort.mapBlock, Go.Sort.ahead, Array.getElem?_modify, Array.getElem?_setIfInBounds]
      have hblt : b < w.heap.size := (Array.getElem?_eq_some_iff.1 ho).1
      by_cases hj : b = j
      · subst hj; simp [hblt, (Array.getElem?_eq_some_iff.1 ho).2, Go.Sort.onCells]
      · simp [hj]
    have e81 : (IT.fn 81 at9 (.lit 0)).den ρ = some (encL (e.L.eraseIdx i)) := by
      rw [fnD e9 (litD 0), hg.2.2.2.2.1]
      show some (encL (e.L.eraseIdx ((i : Int)).toNat)) = _
      rw [Int.toNat_natCast]
    have eln := ln_den hg hl (by omega)
    have hh' := hh.write (k' := ⟨deB c, true⟩) hk rfl hN (w' := w') (o' := .cells (Go.Sort.putCells (Value.int .i64) 0 D cc) 3 fr) ⟨rowOf [.i64] (e.L.eraseIdx i), _, fr, 3, e.L.length - 1, 0, rfl, fun _ => rfl, by simp only [AT.den, e81, Option.map_some, decL_encL], rfl, ⟨Nat.zero_le _, by
      rw [List.drop_zero, rowOf1]
      refine List.prefix_iff_getElem?.2 fun j hj => ?_
      have hj' : j < (e.L.eraseIdx i).length := by simpa using hj
      have hjc : j < cc.size := by omega
      rw [Array.getElem?_toList, Go.Sort.putCells, Array.getElem?_mapIdx, Array.getElem?_eq_getElem hjc, Option.map_some, if_pos ⟨Nat.zero_le _, by omega⟩, Nat.sub_zero, List.getElem_map]
      have : D[j]! = (e.L.eraseIdx i)[j] := by
        rw [getElem!_pos D j (by omega)]
        simp only [hDd]
        rw [List.getElem_toArray, List.getElem_append_left hj']
      rw [this]⟩, eln, rowOf_typed (by rw [hlen]; simp), ⟨cap, hcap, by simp [Go.Sort.putCells, hcs]⟩, fun _ => by
        have := hfr rfl
        unfold FrOk at this ⊢
        simpa [Go.Sort.putCells] using this⟩ hheap (by rw [hw]; rfl) (by rw [hw]; rfl) (by rw [hw]; rfl)
    refine ⟨_, he, _, _, _, _, ρ, List.mem_cons_self, Env.Le.refl ρ, ?_, hh', hc⟩
    rw [show i + 1 - i = 1 by omega]
    exact den_slice_of hN rfl eln hcap
end
end Ls
end Go.Proofs.Ytpgonpjakllnjaa
end
