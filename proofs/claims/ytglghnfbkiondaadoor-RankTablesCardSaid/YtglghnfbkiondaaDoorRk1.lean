/-
  Ranks (1): slices.Sorted, as the machine takes it.
-/
import Derived.Test.YtglghnfbkiondaaDoorSv2
import Derived.Test.YtglghnfbkiondaaDoorBa
import Derived.Test.YtglghnfbkiondaaDoorRp0
import Derived.Test.YtglghnfbkiondaaDoorVm30
namespace Go.Proofs.YtglghnfbkiondaaDoor
open Go.Vm Go.Vm.Rk Go.Maps
namespace Rk

theorem rowOf1 (L : List Int) : rowOf [.i64] L = L.map (Value.int .i64) := by
  apply List.ext_getElem?
  intro i
  rw [rowOf_get, List.getElem?_map]
  have : i % [IntKind.i64].length = 0 := Nat.mod_one i
  rw [this]; rfl
theorem framed_of_below {w w' : World} (h : Go.RowKit.Below w.heap.size w w') : Framed w w' := by
  obtain ⟨h1, h2, h3, h4, h5⟩ := h
  exact ⟨h4, h5, h2, h1, h3⟩
theorem rowOut_of {w w' : World} {v' : Value} {L : List Int} (h : w'.ownsRow w.heap.size 3 1 v' L.length (L.map Go.encZ)) (hnn : v' ≠ .slice none 0 0) (hf : Framed w w') : RowOut w w' v' 3 [.i64] L L.length := by
  obtain ⟨_, h⟩ := h
  rcases h with ⟨h1, _⟩ | ⟨g, cap, cur, rfl, hg, hc, _, _, hs, ht⟩
  · exact absurd h1 hnn
  · refine ⟨hf, by simp, g, cap, cur, (0, 0), rfl, hg, hc, ?_, hs, .inl (Nat.le_refl _)⟩
    rw [rowOf1]
    have : L.map (Value.int .i64) = L.map Go.encZ := rfl
    rw [this, ← ht]; exact List.take_prefix _ _
-- SMALL ROWS IN ORDER, COMPUTED
def insI (x : Int) : List Int → List Int
  | [] => [x]
  | y :: r => if x ≤ y then x :: y :: r else y :: insI x r
def srtI (l : List Int) : List Int := l.foldr insI []
theorem insI_perm (x : Int) : ∀ l, (insI x l).Perm (x :: l)
  | [] => List.Perm.refl _
  | y :: r => by
    unfold insI
    split
    · exact List.Perm.refl _
    · exact ((insI_perm x r).cons y).trans (List.Perm.swap x y r)
theorem insI_sorted (x : Int) : ∀ l, l.Pairwise (fun a b => a ≤ b) → (insI x l).Pairwise fun a b => a ≤ b
  | [], _ => by simp [insI]
  | y :: r, h => by
    unfold insI
    have h' := List.pairwise_cons.1 h
    split
    · rename_i hxy
      refine List.pairwise_cons.2 ⟨fun z hz => ?_, h⟩
      rcases List.mem_cons.1 hz with rfl | hz
      · exact hxy
      · have := h'.1 z hz; omega
    · refine List.pairwise_cons.2 ⟨fun z hz => ?_, insI_sorted x r h'.2⟩
      rcases List.mem_cons.1 ((insI_perm x r).mem_iff.1 hz) with rfl | hz
      · omega
      · exact h'.1 z hz
theorem srtI_perm : ∀ l, (srtI l).Perm l
  | [] => List.Perm.refl _
  | x :: r => (insI_perm x (srtI r)).trans ((srtI_perm r).cons x)
theorem srtI_sorted : ∀ l, (srtI l).Pairwise fun a b => a ≤ b
  | [] => List.Pairwise.nil
  | x :: r => insI_sorted x _ (srtI_sorted r)
theorem srtI_eq (L : List Int) : srtI L = sortL L :=
  List.Perm.eq_of_pairwise (le := fun a b => a ≤ b) (fun a b _ _ h1 h2 => by omega) (srtI_sorted L) (sortL_sorted L) ((srtI_perm L).trans (sortL_perm L).symm)
-- THE SPEC
/-- The sum of the first ones in order. -/
def sumW (L : List Int) : Nat → Int
  | 0 => 0
  | i + 1 => IntKind.i64.wrap (sumW L i + (sortL L).getD i 0)
def least (L : List Int) : Int := (sortL L).getD 0 0
def most (L : List Int) : Int := (sortL L).getD (L.length - 1) 0
def mid (L : List Int) : Int := (sortL L).getD ((L.length - 1) / 2) 0
def late (L : List Int) : Int := (sortL L).getD (9 * (L.length - 1) / 10) 0
def GR : GP := fun _ _ _ _ F => F 40 = (fun x _ => encL (sortL (decL x))) ∧ F 41 = (fun x _ => least (decL x)) ∧ F 42 = (fun x _ => most (decL x)) ∧ F 43 = (fun x _ => sumW (decL x) (decL x).length) ∧ F 44 = (fun x _ => mid (decL x)) ∧ F 45 = (fun x _ => late (decL x)) ∧ F 46 = (fun x _ => encL (clsL (decL x) (decL x).length)) ∧ F 47 = (fun x _ => ((clsL (decL x) (decL x).length).length : Int)) ∧ F 48 = fun x _ => (Lib.bitLen x.toNat : Int)
def FR : Nat → Int → Int → Int := fun k => if k = 40 then (fun x _ => encL (sortL (decL x))) else if k = 41 then (fun x _ => least (decL x)) else if k = 42 then (fun x _ => most (decL x)) else if k = 43 then (fun x _ => sumW (decL x) (decL x).length) else if k = 44 then (fun x _ => mid (decL x)) else if k = 45 then (fun x _ => late (decL x)) else if k = 46 then (fun x _ => encL (clsL (decL x) (decL x).length)) else if k = 47 then (fun x _ => ((clsL (decL x) (decL x).length).length : Int)) else fun x _ => (Lib.bitLen x.toNat : Int)
theorem GR_at (I : Nat → Int) (B S V N) : GP.at GR ⟨I, B, S, V, N, FR⟩ := ⟨rfl, rfl, rfl, rfl, rfl, rfl, rfl, rfl, rfl⟩
def litsOf : List AVal → Option (List Int)
  | [] => some []
  | .int .i64 (.lit n) :: r => (litsOf r).map (n :: ·)
  | _ => none
theorem litsOf_ok {ρ : Env} : ∀ {vals : List AVal} {L : List Int}, litsOf vals = some L → AVal.denL ρ vals = some (L.map (Value.int .i64))
  | [], L, h => by cases h; rfl
  | v :: r, L, h => by
    unfold litsOf at h
    split at h
    · rename_i he; cases he
    · rename_i n r' he
      cases he
      obtain ⟨L', h1, rfl⟩ := Option.map_eq_some_iff.1 h
      have ih := litsOf_ok (ρ := ρ) h1
      simp only [AVal.denL, ih, AVal.den, IT.den, Option.map_some, List.map_cons]
    · cases h
theorem denLits {ρ : Env} : ∀ L : List Int, AVal.denL ρ (L.map fun n => AVal.int .i64 (.lit n)) = some (L.map (Value.int .i64))
  | [] => rfl
  | a :: t => by simp only [List.map_cons, AVal.denL, AVal.den, IT.den, Option.map_some, denLits t]
def newRow (l : List Int) (H : Heap) (nl : Nat) (cs : Cs) : List Leaf := [.ret (.slice (nl + 1) (.lit 0) (.lit (.ofNat l.length)) (.nv nl)) (H.set (nl + 1) ⟨.cells (l.map fun n => .int .i64 (.lit n)) 3 (some (nl, 1)), true⟩) (nl + 2) cs]
theorem newRow_ok {β : Base} {ρ : Env} {H : Heap} {nl : Nat} {cs : Cs} {w w' : World} {v : Value} {L : List Int} (hh : HRel β ρ H nl w) (hc : CRel ρ cs) (r : RowOut w w' v 3 [.i64] L L.length) :
    ∃ u H' nl' cs' ρ', Leaf.ret u H' nl' cs' ∈ newRow L H nl cs ∧ ρ.Le ρ' ∧ u.den ρ' = some v ∧ HRel β ρ' H' nl' w' ∧ CRel ρ' cs' := by
  obtain ⟨b, cap, c0, f, rfl, hb, hob, hp, hcs, hf⟩ := r.row
  have h1 := hh.num cap
  have hle1 : ρ.Le (ρ.put nl cap) := Env.le_put (hh.fresh nl (Nat.le_refl _))
  have hle2 : (ρ.put nl cap).Le ((ρ.put nl cap).put (nl + 1) b) := Env.le_put (h1.fresh _ (Nat.le_refl _))
  have hN : ((ρ.put nl cap).put (nl + 1) b).N nl = some cap := hle2.n _ _ (Env.put_same ..)
  have hrel : (ABlk.cells (L.map fun n => AVal.int .i64 (.lit n)) 3 (some (nl, 1))).rel ((ρ.put nl cap).put (nl + 1) b) true (.cells c0 3 f) := by
    rw [rowOf1] at hp
    refine ⟨L.map (Value.int .i64), c0, f, rfl, denLits L, hp, ⟨?_, cap, hN, hcs⟩, fun _ => hf⟩
    have := hp.length_le
    simpa using this
  exact ⟨_, _, _, _, _, List.mem_cons_self, hle1.trans hle2, den_slice_of (Env.put_same ..) rfl rfl (nvD hN), h1.adopt r.fr hb hob hrel, hc.mono (hle1.trans hle2)⟩
def spSrt : SpG := fun args H nl cs => match args with
  | [.func (.func 35) [] [.ptr lb (.lit (.ofNat 0))]] => match H.get lb with
    | some ⟨.cells [.slice l off n _] _ none, _⟩ => match H.get l with
      | some ⟨.cells vals _ _, _⟩ => match off, n with
        | .lit (.ofNat 0), .lit (.ofNat n) => match litsOf (vals.take n) with
          | some L => cond (Nat.beq L.length n && Nat.blt 0 n && Nat.blt n 1000) (some (newRow (srtI L) H nl cs)) none
          | none => none
        | _, _ => none
      | some ⟨.arr (.code ks c) ks' _ n0 off0 _, _⟩ => cond (decide (ks = [.i64]) && decide (ks' = [.i64]) && IT.beq n n0 && IT.beq off off0 && sureC cs (.cmp .geq n (.lit 1)) && sureC cs (.cmp .leq n (.lit 1000)))
        (some [.ret (.slice (nl + 1) (.lit 0) n (.nv nl)) (H.set (nl + 1) ⟨.arr (.code [.i64] (.fn 40 c (.lit 0))) [.i64] 3 n (.lit 0) (some (.nv nl)), true⟩) (nl + 2) cs]) none
      | _ => none
    | _ => none
  | [.func (.func 40) [] [.ptr lb (.lit (.ofNat 0))]] => match H.get lb with
    | some ⟨.cells [.map l] _ none, _⟩ => match H.get l with
      | some ⟨.map [(.int .i64 (.lit k), _, bn)] cl, _⟩ => cond (decide (0 ≤ k) && decide (k ≤ 1000) && Nat.blt bn cl) (some (newRow [k] H nl cs)) none
      | _ => none
    | _ => none
  | _ => none
theorem box1 {β : Base} {ρ : Env} {H : Heap} {nl : Nat} {w : World} (hh : HRel β ρ H nl w) {l : Nat} {u : AVal} {el : TypeId} {rw : Bool} (h : H.get l = some ⟨.cells [u] el none, rw⟩) : ∃ b v, ρ.N l = some b ∧ u.den ρ = some v ∧ b < w.heap.size ∧ w.cell? ⟨b, 0, none⟩ = some v := by
  obtain ⟨b, o, hb, ho, xs, c, fr, rfl, hd, hp, ht, _⟩ := hh.blk l _ h
  cases hu : u.den ρ with
  | none => simp only [AVal.denL, hu] at hd; cases hd
  | some v =>
    simp only [AVal.denL, hu, Option.some.injEq] at hd
    subst hd
    refine ⟨b, v, hb, rfl, (Array.getElem?_eq_some_iff.1 ho).1, ?_⟩
    rw [cell_of w ho]
    obtain ⟨t, ht'⟩ := hp
    rw [← Array.getElem?_toList, ← ht']; rfl
theorem func_args {ρ : Env} {g lb b : Nat} {xs : List Value} (hN : ρ.N lb = some b) (hx : AVal.denL ρ [.func (.func g) [] [.ptr lb (.lit (.ofNat 0))]] = some xs) : xs = [.func (.func g) #[] #[.pointer (some ⟨b, 0, none⟩)]] := by
  have h : AVal.denL ρ [.func (.func g) [] [.ptr lb (.lit 0)]] = some [.func (.func g) #[] #[.pointer (some ⟨b, 0, none⟩)]] := denL1 (by simp only [AVal.den, AVal.denL, hN]; rfl)
  exact (Option.some.inj (h.symm.trans hx)).symm
theorem take_den {ρ : Env} : ∀ {vals : List AVal} {xs : List Value} (n : Nat), AVal.denL ρ vals = some xs → AVal.denL ρ (vals.take n) = some (xs.take n)
  | _, _, 0, _ => by rw [List.take_zero, List.take_zero]; rfl
  | [], xs, n + 1, h => by cases h; rfl
  | v :: r, xs, n + 1, h => by
    simp only [AVal.denL] at h
    split at h
    · rename_i x l hx hl
      cases h
      simp only [List.take_succ_cons, AVal.denL, hx, take_den n hl]
    · cases h
theorem owns1 {w : World} {b bn cl : Nat} {k : Int} {v : Value} (h : w.heap[b]? = some (.map #[⟨.int .i64 k, v, bn⟩] cl)) (hb : bn < cl) (h0 : 0 ≤ k) (h1 : k ≤ 1000) : w.ownsMap Tryd.prog 3 (fun _ => some (DataW.nil (H := Unit), [])) b 1 (.map [(.int .i64 k, .nil)]) := by
  have hwf : (Lit.int .i64 k).wf = true := by
    have := Go.RowKit.wrap64_wf k
    unfold Go.RowKit.wrap64 at this
    rwa [show (k + 9223372036854775808) % 18446744073709551616 - 9223372036854775808 = k by omega] at this
  have hrd : Go.WideElems.rd Tryd.prog 3 (fun _ => some (DataW.nil (H := Unit), [])) ⟨.int .i64 k, v, bn⟩ = some (.int .i64 k, .nil) := by
    unfold Go.WideElems.rd
    rw [Go.Maps.keyOf_int_mk Tryd.underlying3 hwf]
    rfl
  refine ⟨_, cl, h, ⟨by simp [maxLen], ⟨fun x hx => ?_, by simp, by simp⟩, fun x hx => ?_⟩, by simp, ?_⟩
  · have : x = ⟨.int .i64 k, v, bn⟩ := by simpa using hx
    rw [this]; exact hb
  · have : x = ⟨.int .i64 k, v, bn⟩ := by simpa using hx
    rw [this]; exact ⟨_, hrd⟩
  · simp only [List.map_cons, List.map_nil, Go.WideElems.rg, hrd, Option.getD_some]; rfl
theorem spSrt_ok {β : Base} (hG : ∀ I B S V F, β.G I B S V F → GR I B S V F) : SpGOk Tryd.prog β 19 spSrt := by
  intro args H nl cs ls ρ w xs hr hx hh hc
  unfold spSrt at hr
  split at hr
  · rename_i lb
    split at hr
    rotate_left
    · cases hr
    rename_i l off n q el rwb hgb
    obtain ⟨bb, sv, hNb, hsv, hbl, hcell⟩ := box1 hh hgb
    obtain ⟨b, o, N, cap, rfl, hN, ho, hn, _⟩ := den_slice hsv
    obtain rfl := func_args hNb hx
    have ho : off.den ρ = some (o : Int) := ho
    have hn : n.den ρ = some (N : Int) := hn
    split at hr
    · rename_i vals e2 t2 rw2 hgl
      split at hr
      rotate_left
      · cases hr
      rename_i n' ho hn
      obtain rfl : o = 0 := by have := Option.some.inj ho; exact (Int.ofNat.inj this).symm
      obtain rfl : N = n' := by have := Option.some.inj hn; exact (Int.ofNat.inj this).symm
      split at hr
      rotate_left
      · cases hr
      rename_i L hL
      cases hq : (Nat.beq L.length N && Nat.blt 0 N && Nat.blt N 1000) with
      | false => rw [hq] at hr; cases hr
      | true =>
        rw [hq] at hr; cases hr
        simp only [Bool.and_eq_true, Nat.blt_eq] at hq
        obtain ⟨⟨q1, q2⟩, q3⟩ := hq
        have hlen : L.length = N := Nat.eq_of_beq_eq_true q1
        obtain ⟨b', ob, hb', hob, ys, c, fr, rfl, hd, hp, ht, _⟩ := hh.blk l _ hgl
        rw [hN] at hb'; cases hb'
        have hd' := (take_den N hd).symm.trans (litsOf_ok hL)
        have hd' : ys.take N = L.map (Value.int .i64) := Option.some.inj hd'
        have hcs : ∀ j, j < L.length → w.cell? ⟨b, 0 + j, none⟩ = some (.int .i64 (L[j]?.getD 0)) := fun j hj => by
          rw [Nat.zero_add, cell_of w hob, ← Array.getElem?_toList]
          have hpp : L.map (Value.int .i64) <+: c.toList := by rw [← hd']; exact (List.take_prefix _ _).trans hp
          obtain ⟨t, ht'⟩ := hpp
          rw [← ht', List.getElem?_append_left (by simpa using hj)]
          simp [hj]
        have hNe : N = L.length := hlen.symm
        subst hNe
        have hne : L ≠ [] := List.length_pos_iff.1 q2
        refine (Sv.sortedV bb b 0 cap L (by omega) w hbl (Array.getElem?_eq_some_iff.1 hob).1 hcell hcs).mono fun e w' ⟨v, he, hrow, hnil, hbw⟩ => ?_
        have e1 : L.mergeSort (fun x y => decide (x ≤ y)) = srtI L := (srtI_eq L).symm
        have e2 : L.length = (srtI L).length := by rw [srtI_eq, sortL_len]
        rw [e1, e2] at hrow
        have ro := rowOut_of hrow (fun hv => hne (hnil.1 hv)) (framed_of_below hbw)
        obtain ⟨u, H', nl', cs', ρ', hm, hle, hu, hr', hc'⟩ := newRow_ok hh hc ro
        exact ⟨v, he, u, H', nl', cs', ρ', hm, hle, hu, hr', hc'⟩
    · rename_i ks c ks' e2 n0 off0 cp rw2 hgl
      cases hq : (decide (ks = [IntKind.i64]) && decide (ks' = [IntKind.i64]) && IT.beq n n0 && IT.beq off off0 && sureC cs (.cmp .geq n (.lit 1)) && sureC cs (.cmp .leq n (.lit 1000))) with
      | false => rw [hq] at hr; cases hr
      | true =>
        rw [hq] at hr; cases hr
        simp only [Bool.and_eq_true, decide_eq_true_eq] at hq
        obtain ⟨⟨⟨⟨⟨rfl, rfl⟩, q3⟩, q4⟩, q5⟩, q6⟩ := hq
        obtain rfl := IT.beq_eq q3
        obtain rfl := IT.beq_eq q4
        have h1 := sureC_ok q5 hc
        have h2 := sureC_ok q6 hc
        rw [cmpD hn (litD 1)] at h1
        rw [cmpD hn (litD 1000)] at h2
        simp only [intCmp, Option.some.injEq, decide_eq_true_eq] at h1 h2
        obtain ⟨b', ob, hb', hob, ys, c0, fr, el', m, st, rfl, _, hd, hst, ⟨_, hp⟩, hn', hty, _⟩ := hh.blk l _ hgl
        rw [hN] at hb'; cases hb'
        have e1 : m = N := by have := hn'.symm.trans hn; exact Int.ofNat.inj (Option.some.inj this)
        have e2 : st = o := by have := hst.symm.trans ho; exact Int.ofNat.inj (Option.some.inj this)
        subst e1; subst e2
        simp only [AT.den] at hd
        cases hcd : c.den ρ with
        | none => rw [hcd] at hd; cases hd
        | some xv =>
          rw [hcd, Option.map_some, Option.some.injEq] at hd
          subst hd
          have hlen : (decL xv).length = m := by have := hty.1; rw [rowOf_length] at this; simpa using this
          have hcs : ∀ j, j < (decL xv).length → w.cell? ⟨b, st + j, none⟩ = some (.int .i64 ((decL xv)[j]?.getD 0)) := fun j hj => by
            rw [cell_of w hob, ← Array.getElem?_toList]
            rw [rowOf1] at hp
            obtain ⟨t, ht'⟩ := hp
            have : (c0.toList.drop st)[j]? = some (.int .i64 ((decL xv)[j]?.getD 0)) := by
              rw [← ht', List.getElem?_append_left (by simpa using hj)]
              simp [hj]
            rw [List.getElem?_drop] at this
            exact this
          have hne : decL xv ≠ [] := fun e => by rw [e] at hlen; simp at hlen; omega
          rw [← hlen] at hcell
          refine (Sv.sortedV bb b st cap (decL xv) (by omega) w hbl (Array.getElem?_eq_some_iff.1 hob).1 hcell hcs).mono fun e w' ⟨v, he, hrow, hnil, hbw⟩ => ?_
          have e1 : (decL xv).mergeSort (fun x y => decide (x ≤ y)) = sortL (decL xv) := rfl
          have e2 : (decL xv).length = (sortL (decL xv)).length := by rw [sortL_len]
          rw [e1, e2] at hrow
          have ro := rowOut_of hrow (fun hv => hne (hnil.1 hv)) (framed_of_below hbw)
          rw [← e2, hlen] at ro
          have e40 : (IT.fn 40 c (.lit 0)).den ρ = some (encL (sortL (decL xv))) := by rw [fnD hcd (litD 0), (hG _ _ _ _ _ hh.g).1]
          obtain ⟨ρ', hle, hd', hr'⟩ := row_in hh ro hn e40
          exact ⟨v, he, _, _, _, _, ρ', List.mem_cons_self, hle, hd', hr', hc.mono hle⟩
    · cases hr
  · rename_i lb
    split at hr
    rotate_left
    · cases hr
    rename_i l el rwb hgb
    obtain ⟨bb, sv, hNb, hsv, hbl, hcell⟩ := box1 hh hgb
    obtain ⟨b, rfl, hN⟩ := den_map hsv
    obtain rfl := func_args hNb hx
    split at hr
    rotate_left
    · cases hr
    rename_i k v bn cl rw2 hgl
    cases hq : (decide (0 ≤ k) && decide (k ≤ 1000) && Nat.blt bn cl) with
    | false => rw [hq] at hr; cases hr
    | true =>
      rw [hq] at hr; cases hr
      simp only [Bool.and_eq_true, decide_eq_true_eq, Nat.blt_eq] at hq
      obtain ⟨⟨q1, q2⟩, q3⟩ := hq
      obtain ⟨es, hg, hes⟩ := hh.map hgl hN
      simp only [esDen] at hes
      split at hes
      rotate_left
      · cases hes
      rename_i y z l' hy hz hl'
      cases hl'
      cases hes
      obtain rfl : Value.int .i64 k = y := Option.some.inj hy
      have ow := owns1 hg q3 q1 q2
      refine (Sv.sortedK bb b 1 _ _ w hbl hcell ow (by show ([(Lit.int IntKind.i64 k, DataW.nil (H := Unit))] : List _).length ≤ 1000000; simp)).mono fun e w' ⟨vv, ss, he, hperm, hrow, hnil, hbw⟩ => ?_
      have hss : ss = [k] := List.perm_singleton.1 hperm
      subst hss
      rw [show [k].mergeSort (fun x y => decide (x ≤ y)) = [k] from (srtI_eq [k]).symm] at hrow
      have ro := rowOut_of (L := [k]) hrow (fun hv => by have := hnil.1 hv; cases this) (framed_of_below hbw)
      obtain ⟨u, H', nl', cs', ρ', hm, hle, hu, hr', hc'⟩ := newRow_ok hh hc ro
      exact ⟨vv, he, u, H', nl', cs', ρ', hm, hle, hu, hr', hc'⟩
  · cases hr
end Rk
end Go.Proofs.YtglghnfbkiondaaDoor
