/-
  RankTables (9): Steps, the ranks of operations and their keys, as the machine takes them.
-/
import Derived.Test.YtglghnfbkiondaaDoorRt8
section
namespace Go.Proofs.YtglghnfbkiondaaDoor
open Go.Vm Go.Vm.Rk Go.Vm.Mr
namespace Rt
open Rk

-- OTHER NAMES
def _root_.Go.Vm.Env.up (ρ : Env) (I' : List (Nat × Int)) : Env := ⟨fun i => (lk I' i).getD (ρ.I i), ρ.B, ρ.S, ρ.V, ρ.N, ρ.F⟩
theorem lk_big {α : Type} {l : List (Nat × α)} {b i : Nat} (h : (l.all fun p => Nat.blt p.1 b) = true) (hi : b ≤ i) : lk l i = none := by
  cases hl : lk l i with
  | none => rfl
  | some t =>
    have h1 := List.all_eq_true.1 h _ (lk_mem hl)
    rw [Nat.blt_eq] at h1
    simp only at h1; omega
theorem bL_rel {ρ ρ2 : Env} {o : Obj} (h : ∀ i, 30 ≤ i → ρ2.I i = ρ.I i) (g : bL.rel ρ false o) : bL.rel ρ2 false o := by
  obtain ⟨xs, c, fr, el, m, b, ho, hel, hd, hb, hp, hn, ht, hr, hf⟩ := g
  refine ⟨xs, c, fr, el, m, b, ho, hel, ?_, ?_, hp, ?_, ht, trivial, hf⟩
  · simp only [AT.den, IT.den, h 35 (by omega)]; exact hd
  · simp only [IT.den, h 62 (by omega)]; exact hb
  · simp only [IT.den, h 36 (by omega)]; exact hn
section
variable {β : Base} {ρ : Env} {H : Heap} {nl : Nat} {w : World} {d : Dt} {I' : List (Nat × Int)}
theorem up_I (hI : (I'.all fun p => Nat.blt p.1 30) = true) {i : Nat} (hi : 30 ≤ i) : (ρ.up I').I i = ρ.I i := by
  show (lk I' i).getD (ρ.I i) = _
  rw [lk_big hI hi]; rfl
theorem up_G (hI : (I'.all fun p => Nat.blt p.1 30) = true) (h : (Gd d).at ρ) : (Gd d).at (ρ.up I') :=
  ⟨fun p hp => by rw [up_I hI (pins30 d p hp)]; exact h.1 p hp, h.2⟩
theorem reEnv (hh : HRel β ρ H nl w) (hn : nl ≤ 500) (hG : β.G = Gd d) (hE : hasE (EL .row) H = true) (hI : (I'.all fun p => Nat.blt p.1 30) = true) : HRel ⟨w, [], Gd d⟩ (ρ.up I') (ofP (roH (EL .row))) 500 w :=
  HRel.ro (EL .row) (fun p hp => by
    have h1 := List.all_eq_true.1 hE p hp
    split at h1
    · rename_i k hk
      obtain ⟨b, o, hb, ho, hr⟩ := hh.blk _ _ hk
      rw [ABlk.beq_eq h1] at hr
      obtain rfl : p = (0, bL) := List.mem_singleton.1 hp
      exact ⟨b, o, hb, ho, bL_rel (fun i hi => up_I hI hi) (rel_ro hr)⟩
    · cases h1) (fun i hi => hh.fresh i (by omega)) (by
      have := hh.g
      rw [hG] at this
      exact up_G hI this) (nb_EL .row)
theorem SL_up (hI : (I'.all fun p => Nat.blt p.1 30) = true) : (SL .row).den (ρ.up I') = (SL .row).den ρ := by
  have h36 := up_I (ρ := ρ) hI (i := 36) (by omega)
  have h62 := up_I (ρ := ρ) hI (i := 62) (by omega)
  have h63 := up_I (ρ := ρ) hI (i := 63) (by omega)
  simp only [SL, Kd.v, AVal.den, IT.den, h36, h62, h63]; rfl
end
-- STEPS
def nT (k a : IT) : IT := .fn 77 k a
def eT (k a : IT) : BT := .cmp .eql (nT k a) (.lit 0)
def stNo (k a : IT) (H : Heap) (nl : Nat) (cs : Cs) : Leaf := .ret .sliceNil H nl ((eT k a, true) :: cs)
def stYes (k a : IT) (H : Heap) (nl : Nat) (cs : Cs) : Leaf := .ret (.slice (nl + 1) (.lit 0) (nT k a) (.nv nl)) (H.set (nl + 1) ⟨.arr (.code [.i64] (.fn 78 k a)) [.i64] 3 (nT k a) (.lit 0) (some (.nv nl)), true⟩) (nl + 2)
  (q9 .geq (nT k a) (.lit 1) true :: q9 .leq (nT k a) (.lit 300) true :: (eT k a, false) :: cs)
def two (cs : Cs) (t : BT) (no yes : Leaf) : List Leaf := match lookB cs t with
  | some true => [no]
  | some false => [yes]
  | none => [no, yes]
theorem two_no {ρ : Env} {cs : Cs} {t : BT} {no yes : Leaf} (hc : CRel ρ cs) (h : t.den ρ = some true) : no ∈ two cs t no yes := by
  unfold two
  split
  · exact List.mem_cons_self
  · rename_i hb; have := lookB_ok hb hc; rw [h] at this; cases this
  · exact List.mem_cons_self
theorem two_yes {ρ : Env} {cs : Cs} {t : BT} {no yes : Leaf} (hc : CRel ρ cs) (h : t.den ρ = some false) : yes ∈ two cs t no yes := by
  unfold two
  split
  · rename_i hb; have := lookB_ok hb hc; rw [h] at this; cases this
  · exact List.mem_cons_self
  · exact List.mem_cons_of_mem _ List.mem_cons_self
def stLs (k a : IT) (H : Heap) (nl : Nat) (cs : Cs) : List Leaf := two cs (eT k a) (stNo k a H nl cs) (stYes k a H nl cs)
def spSt13 : SpG := fun args H nl cs => match args with
  | [x, .int .i64 k] => cond (AVal.beq x (SL .row) && (hasE (EL .row) H && Nat.ble nl 500)) (some (stLs k (.lit (-1)) H nl cs)) none
  | _ => none
def spSt14 : SpG := fun args H nl cs => match args with
  | [x, .int .i64 k, .int .i64 a] => cond (AVal.beq x (SL .row) && (hasE (EL .row) H && Nat.ble nl 500)) (some (stLs k a H nl cs)) none
  | _ => none
section
variable {β : Base} {ρ : Env} {H : Heap} {nl : Nat} {cs : Cs} {w w' : World} {d : Dt}
theorem n_den (hG : (Gd d).at ρ) {k a : IT} {kz az : Int} (hk : k.den ρ = some kz) (ha : a.den ρ = some az) : (nT k a).den ρ = some ((d.steps kz az).length : Int) := by
  unfold nT
  rw [fnD hk ha, hG.2.2.1]; rfl
theorem e_den (hG : (Gd d).at ρ) {k a : IT} {kz az : Int} (hk : k.den ρ = some kz) (ha : a.den ρ = some az) : (eT k a).den ρ = some (decide (d.steps kz az = [])) := by
  unfold eT
  rw [cmpD (n_den hG hk ha) (litD 0)]
  simp only [intCmp, Option.some.injEq]
  cases d.steps kz az with
  | nil => rfl
  | cons x r => simp; omega
theorem s_den (hG : (Gd d).at ρ) {k a : IT} {kz az : Int} (hk : k.den ρ = some kz) (ha : a.den ρ = some az) : (IT.fn 78 k a).den ρ = some (encL (sortL (d.steps kz az))) := by
  rw [fnD hk ha, hG.2.2.2.1]; rfl
theorem steps_le (d : Dt) (k a : Int) (hn : d.n ≤ 100) : (d.steps k a).length ≤ 100 := Nat.le_trans (d.stp_le k a d.n) hn
theorem st_ok (ok : DOk d) (hβ : β.G = Gd d) (hh : HRel β ρ H nl w) (hc : CRel ρ cs) {k a : IT} {kz az : Int} (hk : k.den ρ = some kz) (ha : a.den ρ = some az) {v : Value} (h : RS d kz az w v w') :
    ∃ u H' nl' cs' ρ', Leaf.ret u H' nl' cs' ∈ stLs k a H nl cs ∧ ρ.Le ρ' ∧ u.den ρ' = some v ∧ HRel β ρ' H' nl' w' ∧ CRel ρ' cs' := by
  have hG : (Gd d).at ρ := by have := hh.g; rw [hβ] at this; exact this
  have he := e_den hG hk ha
  have hn := n_den hG hk ha
  have h100 := steps_le d kz az ok.n100
  rcases h with ⟨h1, rfl, hf⟩ | ⟨h1, ro⟩
  · have ht : (eT k a).den ρ = some true := by rw [he]; simp [h1]
    exact ⟨_, _, _, _, ρ, two_no hc ht, Env.Le.refl ρ, rfl, hh.framed hf, c1 ht hc⟩
  · have ht : (eT k a).den ρ = some false := by rw [he]; simp [h1]
    obtain ⟨ρ', hle, hd, hr'⟩ := row_in hh ro hn (s_den hG hk ha)
    have hpos := List.length_pos_iff.2 h1
    have hn' := IT.den_mono hle hn
    exact ⟨_, _, _, _, ρ', two_yes hc ht, hle, hd, hr', qD hn' (litD 1) (by simp [intCmp]; omega) (qD hn' (litD 300) (by simp [intCmp]; omega) (c1 (BT.den_mono hle ht) (hc.mono hle)))⟩
theorem spSt13_ok (ok : DOk d) (hl : d.kl = .row) (hβ : β.G = Gd d) : SpGOk Tryd.prog β 13 spSt13 := by
  intro args H nl cs ls ρ w xs hr hx hh hc
  unfold spSt13 at hr
  split at hr
  rotate_left
  · cases hr
  rename_i x k
  cases hb : (AVal.beq x (SL .row) && (hasE (EL .row) H && Nat.ble nl 500)) with
  | false => rw [hb] at hr; cases hr
  | true =>
    rw [hb] at hr; simp only [cond_true, Option.some.injEq] at hr
    subst hr
    simp only [Bool.and_eq_true] at hb
    obtain ⟨h1, h2, h3⟩ := hb
    obtain rfl := AVal.beq_eq _ _ h1
    cases hk : k.den ρ with
    | none => simp only [AVal.denL, AVal.den, hk, Option.map_none] at hx; cases hs : (SL Kd.row).den ρ <;> rw [hs] at hx <;> cases hx
    | some kz =>
    have hr2 := reEnv (I' := [(20, kz), (21, -1)]) hh (Nat.le_of_ble_eq_true h3) hβ h2 rfl
    have hx2 : AVal.denL (ρ.up [(20, kz), (21, -1)]) [SL .row, iV 20] = some xs := by
      rw [← hx]
      simp only [AVal.denL, SL_up (ρ := ρ) (I' := [(20, kz), (21, -1)]) rfl]
      simp only [iV, AVal.den, hk]; rfl
    exact (stp13 ok hl (a := -1) (by decide) hr2 rfl rfl hx2).mono fun e w' ⟨v, he, h⟩ => ⟨v, he, st_ok ok hβ hh hc hk rfl h⟩
theorem spSt14_ok (ok : DOk d) (hl : d.kl = .row) (hβ : β.G = Gd d) : SpGOk Tryd.prog β 14 spSt14 := by
  intro args H nl cs ls ρ w xs hr hx hh hc
  unfold spSt14 at hr
  split at hr
  rotate_left
  · cases hr
  rename_i x k a
  cases hb : (AVal.beq x (SL .row) && (hasE (EL .row) H && Nat.ble nl 500)) with
  | false => rw [hb] at hr; cases hr
  | true =>
    rw [hb] at hr; simp only [cond_true, Option.some.injEq] at hr
    subst hr
    simp only [Bool.and_eq_true] at hb
    obtain ⟨h1, h2, h3⟩ := hb
    obtain rfl := AVal.beq_eq _ _ h1
    cases hs : (SL Kd.row).den ρ with
    | none => simp only [AVal.denL, hs] at hx; cases hx
    | some sv =>
    cases hk : k.den ρ with
    | none => simp only [AVal.denL, hs, AVal.den, hk, Option.map_none] at hx; cases hx
    | some kz =>
    cases ha : a.den ρ with
    | none => simp only [AVal.denL, hs, AVal.den, hk, ha, Option.map_none, Option.map_some] at hx; cases hx
    | some az =>
    have hr2 := reEnv (I' := [(20, kz), (21, az)]) hh (Nat.le_of_ble_eq_true h3) hβ h2 rfl
    have hx2 : AVal.denL (ρ.up [(20, kz), (21, az)]) [SL .row, iV 20, iV 21] = some xs := by
      rw [← hx]
      simp only [AVal.denL, SL_up (ρ := ρ) (I' := [(20, kz), (21, az)]) rfl]
      simp only [iV, AVal.den, hk, ha]; rfl
    exact (stp14 ok hl hr2 rfl rfl hx2).mono fun e w' ⟨v, he, h⟩ => ⟨v, he, st_ok ok hβ hh hc hk ha h⟩
end
-- THE RANKS OF OPERATIONS
def spOps : SpG := fun args H nl cs => match args with
  | [x] => cond (AVal.beq x (SL .row) && (hasE (EL .row) H && Nat.ble nl 500)) (some [.ret (.map nl) (H.set nl ⟨.big 5 (.var 39), true⟩) (nl + 1) cs]) none
  | _ => none
theorem spOps_ok {d : Dt} (ok : DOk d) (hl : d.kl = .row) {β : Base} (hβ : β.G = Gd d) : SpGOk Tryd.prog β 17 spOps := by
  intro args H nl cs ls ρ w xs hr hx hh hc
  unfold spOps at hr
  split at hr
  rotate_left
  · cases hr
  rename_i x
  cases hb : (AVal.beq x (SL .row) && (hasE (EL .row) H && Nat.ble nl 500)) with
  | false => rw [hb] at hr; cases hr
  | true =>
    rw [hb] at hr; simp only [cond_true, Option.some.injEq] at hr
    subst hr
    simp only [Bool.and_eq_true] at hb
    obtain ⟨h1, h2, h3⟩ := hb
    obtain rfl := AVal.beq_eq _ _ h1
    have hG : (Gd d).at ρ := by have := hh.g; rw [hβ] at this; exact this
    have hr2 := reEnv (I' := []) hh (Nat.le_of_ble_eq_true h3) hβ h2 rfl
    have hx2 : AVal.denL (ρ.up []) [SL .row] = some xs := by
      rw [← hx]
      simp only [AVal.denL, SL_up (ρ := ρ) (I' := []) rfl]
    refine (ops17 ok hl hr2 hx2).mono fun e w' ⟨v, he, b, F, hv, hf, hF, hfr⟩ => ?_
    subst hv
    have e39 : (IT.var 39).den ρ = some (codeE d.ents) := pin hG (by simp [pins])
    have hh' := hh.bigNew hfr (k := 5) (b := b) (c := .var 39) hf hF e39
    exact ⟨_, he, _, _, _, _, ρ.put nl b, List.mem_cons_self, Env.le_put (hh.fresh nl (Nat.le_refl _)), by simp only [AVal.den, Env.put_same]; rfl, hh', hc.mono (Env.le_put (hh.fresh nl (Nat.le_refl _)))⟩
/-- The rank of a kind's steps. -/
def rkT (k a : IT) : AVal := .agg [.int .i64 (nT k a), .int .i64 (fnT 41 (.fn 78 k a)), .int .i64 (fnT 42 (.fn 78 k a)), .int .i64 (fnT 43 (.fn 78 k a)), .int .i64 (fnT 44 (.fn 78 k a)), .int .i64 (fnT 45 (.fn 78 k a))]
def v6 (L : List Int) : Value := .agg (L.map (Value.int .i64)).toArray
theorem rk_den {d : Dt} {ρ : Env} (hG : (Gd d).at ρ) {k a : IT} {kz az : Int} (hk : k.den ρ = some kz) (ha : a.den ρ = some az) : (rkT k a).den ρ = some (v6 (rank6 (d.steps kz az))) := by
  obtain ⟨_, g41, g42, g43, g44, g45, _⟩ := hG.2.1
  have e0 := n_den hG hk ha
  have er := s_den hG hk ha
  have e1 : (fnT 41 (.fn 78 k a)).den ρ = some (least (sortL (d.steps kz az))) := by rw [fnT, fnD er (litD 0), g41]; simp only [decL_encL]
  have e2 : (fnT 42 (.fn 78 k a)).den ρ = some (most (sortL (d.steps kz az))) := by rw [fnT, fnD er (litD 0), g42]; simp only [decL_encL]
  have e3 : (fnT 43 (.fn 78 k a)).den ρ = some (sumW (sortL (d.steps kz az)) (sortL (d.steps kz az)).length) := by rw [fnT, fnD er (litD 0), g43]; simp only [decL_encL]
  have e4 : (fnT 44 (.fn 78 k a)).den ρ = some (Rk.mid (sortL (d.steps kz az))) := by rw [fnT, fnD er (litD 0), g44]; simp only [decL_encL]
  have e5 : (fnT 45 (.fn 78 k a)).den ρ = some (late (sortL (d.steps kz az))) := by rw [fnT, fnD er (litD 0), g45]; simp only [decL_encL]
  simp only [rkT, AVal.den, AVal.denL, e0, e1, e2, e3, e4, e5, Option.map_some]
  rw [← rank6_sort (d.steps kz az)]
  unfold rank6
  rw [sortL_len]; rfl
def hkLk : OpF := fun o ev H nl cs => match o with
  | .lookup t' m k ok => cond (Nat.beq t' 46) (match ev m, ev k with
    | some (.map l), some (.int .i64 kt) => match H.get l with
      | some ⟨.big 5 (.var 39), _⟩ => cond (sureC cs (.cmp .geq kt (.lit 0))) (some (two cs (eT (.lit 2) kt)
          (.ret (cond ok (.tuple [z6A, .bool (.lit false)]) z6A) H nl ((eT (.lit 2) kt, true) :: cs))
          (.ret (cond ok (.tuple [rkT (.lit 2) kt, .bool (.lit true)]) (rkT (.lit 2) kt)) H nl ((eT (.lit 2) kt, false) :: cs)))) none
      | _ => none
    | _, _ => none) none
  | _ => none
def hkLn : OpF := fun o ev H nl cs => match o with
  | .call { callee := .builtin .len, args, argTypes } => match args.toList, argTypes.toList with
    | [x], [t] => cond (Nat.beq t 46) (match ev x with
      | some (.map l) => match H.get l with
        | some ⟨.big 5 (.var 39), _⟩ => some [.ret (.int .i64 (.var 37)) H nl cs]
        | _ => none
      | _ => none) none
    | _, _ => none
  | _ => none
section
variable {d : Dt} {β : Base} {ρ : Env} {H : Heap} {nl : Nat} {w : World}
/-- What lies there. -/
theorem ranks_of (hG : (Gd d).at ρ) (hh : HRel β ρ H nl w) {l : Nat} {rw : Bool} (hl : H.get l = some ⟨.big 5 (.var 39), rw⟩) : ∃ b es F, ρ.N l = some b ∧ es.Perm d.ents ∧ RanksIn es w b F := by
  obtain ⟨b, x, F, hN, hx, hf, _⟩ := hh.bigTurn hl
  have e39 : (IT.var 39).den ρ = some (codeE d.ents) := pin hG (by simp [pins])
  obtain rfl := Option.some.inj (hx.symm.trans e39)
  rcases hf with ⟨h, _⟩ | ⟨h, _⟩ | ⟨h, _⟩ | ⟨h, _⟩ | ⟨h, _⟩ | ⟨_, es, es', he, hp, hR⟩
  · cases h
  · cases h
  · cases h
  · cases h
  · cases h
  · obtain rfl := codeE_inj he
    exact ⟨b, es, F, hN, hp, hR⟩
theorem ranks_get {es : Es} (hp : es.Perm d.ents) {k : Int} (hk : 0 ≤ k) : gets (es.map fun p => (p.1, Value.agg (p.2.map (Value.int .i64)).toArray)) k = if d.steps 2 k = [] then none else some (v6 (rank6 (d.steps 2 k))) := by
  have hgv := gets_val (f := fun p => Value.agg (p.2.map (Value.int .i64)).toArray) (es := es) (k := k)
  rw [hgv, getE_perm hp ((hp.map (·.1)).nodup_iff.2 d.ents_nodup) k, d.ents_get k hk]
  split <;> rfl
theorem hkLk_ok (hβ : β.G = Gd d) : HookOk Tryd.prog β hkLk := by
  intro o ev H nl cs ls ρ w f h he hh hc _
  unfold hkLk at h
  split at h
  rotate_left
  · cases h
  rename_i t' m k ok ho
  cases hb : Nat.beq t' 46 with
  | false => rw [hb] at h; cases h
  | true =>
    rw [hb] at h; simp only [cond_true] at h
    obtain rfl := Nat.eq_of_beq_eq_true hb
    split at h
    rotate_left
    · cases h
    rename_i l kt hm hk'
    split at h
    rotate_left
    · cases h
    rename_i rw0 hl
    cases hs : sureC cs (.cmp .geq kt (.lit 0)) with
    | false => rw [hs] at h; cases h
    | true =>
    rw [hs] at h; simp only [cond_true, Option.some.injEq] at h
    subst h
    have hG : (Gd d).at ρ := by have := hh.g; rw [hβ] at this; exact this
    obtain ⟨b, hfm, hNl⟩ := den_map (he m _ hm)
    obtain ⟨kz, hfk, hkz⟩ := den_int (he k _ hk')
    have h0 : 0 ≤ kz := by
      have := sureC_ok hs hc
      rw [cmpD hkz (litD 0)] at this
      simpa [intCmp] using this
    obtain ⟨b', es, F, hN', hp, hn, h6, mm, cl, hg, hbm, hmm, hF⟩ := ranks_of hG hh hl
    obtain rfl : b' = b := by rw [hNl] at hN'; exact (Option.some.inj hN').symm
    have hM : MapAt w b' (es.map fun p => (p.1, Value.agg (p.2.map (Value.int .i64)).toArray)) := ⟨mm, cl, hg, hmm, hbm⟩
    have hz6 : ∀ ρ : Env, z6A.den ρ = some (v6 [0, 0, 0, 0, 0, 0]) := fun _ => rfl
    have hrun := hM.lookup Tryd.underlying46 Tryd.underlying3 (u := z6A) (by kernel_rfl) hz6 kz ok
    rw [ranks_get hp h0] at hrun
    have ht := e_den hG (k := .lit 2) (kz := 2) rfl hkz
    by_cases hst : d.steps 2 kz = []
    · have ht1 : (eT (.lit 2) kt).den ρ = some true := by rw [ht]; simp [hst]
      rw [if_pos hst] at hrun
      cases ok with
      | true =>
        have hrun' : (Instr.lookup 46 (f m) (f k) true).run Tryd.prog w = .ok (.tuple #[v6 [0, 0, 0, 0, 0, 0], .bool false]) w := by rw [hfm, hfk]; exact hrun
        exact ⟨.tuple #[v6 [0, 0, 0, 0, 0, 0], .bool false], w, .inl (by simp [execOp, ho, hrun']), _, _, _, _, ρ, two_no hc ht1, Env.Le.refl ρ, rfl, hh, c1 ht1 hc⟩
      | false =>
        have hrun' : (Instr.lookup 46 (f m) (f k) false).run Tryd.prog w = .ok (v6 [0, 0, 0, 0, 0, 0]) w := by rw [hfm, hfk]; exact hrun
        exact ⟨v6 [0, 0, 0, 0, 0, 0], w, .inl (by simp [execOp, ho, hrun']), _, _, _, _, ρ, two_no hc ht1, Env.Le.refl ρ, rfl, hh, c1 ht1 hc⟩
    · have ht1 : (eT (.lit 2) kt).den ρ = some false := by rw [ht]; simp [hst]
      rw [if_neg hst] at hrun
      have dA := rk_den hG (k := .lit 2) (kz := 2) rfl hkz
      obtain ⟨gv, hgv⟩ : ∃ gv, gv = v6 (rank6 (d.steps 2 kz)) := ⟨_, rfl⟩
      rw [← hgv] at dA hrun
      cases ok with
      | true =>
        have hrun' : (Instr.lookup 46 (f m) (f k) true).run Tryd.prog w = .ok (.tuple #[gv, .bool true]) w := by rw [hfm, hfk]; exact hrun
        refine ⟨.tuple #[gv, .bool true], w, .inl (by simp [execOp, ho, hrun']), _, _, _, _, ρ, two_yes hc ht1, Env.Le.refl ρ, ?_, hh, c1 ht1 hc⟩
        have d2 : AVal.denL ρ [rkT (.lit 2) kt, .bool (.lit true)] = some [gv, .bool true] := denL2 dA rfl
        show (AVal.denL ρ [rkT (.lit 2) kt, .bool (.lit true)]).map (fun l => Value.tuple l.toArray) = _
        rw [d2]; rfl
      | false =>
        have hrun' : (Instr.lookup 46 (f m) (f k) false).run Tryd.prog w = .ok gv w := by rw [hfm, hfk]; exact hrun
        exact ⟨gv, w, .inl (by simp [execOp, ho, hrun']), _, _, _, _, ρ, two_yes hc ht1, Env.Le.refl ρ, dA, hh, c1 ht1 hc⟩
theorem hkLn_ok (hβ : β.G = Gd d) : HookOk Tryd.prog β hkLn := by
  intro o ev H nl cs ls ρ w f h he hh hc _
  unfold hkLn at h
  split at h
  rotate_left
  · cases h
  rename_i args tys ho
  split at h
  rotate_left
  · cases h
  rename_i x t hargs htys
  cases hb : Nat.beq t 46 with
  | false => rw [hb] at h; cases h
  | true =>
    rw [hb] at h; simp only [cond_true] at h
    obtain rfl := Nat.eq_of_beq_eq_true hb
    split at h
    rotate_left
    · cases h
    rename_i l hm
    split at h
    rotate_left
    · cases h
    rename_i rw0 hl
    simp only [Option.some.injEq] at h
    subst h
    have hG : (Gd d).at ρ := by have := hh.g; rw [hβ] at this; exact this
    obtain ⟨b, hfm, hNl⟩ := den_map (he x _ hm)
    obtain ⟨b', es, F, hN', hp, hn, h6, mm, cl, hg, hbm, hmm, hF⟩ := ranks_of hG hh hl
    obtain rfl : b' = b := by rw [hNl] at hN'; exact (Option.some.inj hN').symm
    have hsz : mm.size = d.keys.length := by
      have h1 := congrArg List.length hmm
      simp only [List.length_map, Array.length_toList] at h1
      rw [h1, hp.length_eq, Dt.keys, sortL_len, List.length_map]
    have hrun : (Builtin.len_ #[46] o.type #[.map (some b')]).run Tryd.prog w = .ok (.int .i64 (d.keys.length : Nat)) w := by
      simp [Builtin.len_, run_underlying Tryd.underlying46, Go.MapKept.run_getObj_map hg, goInt, Result.andThen, hsz]
    have ha : args.map f = #[f x] := by apply Array.toList_inj.1; simp [hargs]
    have ht : tys = #[46] := by apply Array.toList_inj.1; simp [htys]
    subst ht
    have e37 : (IT.var 37).den ρ = some ((d.keys.length : Nat) : Int) := pin hG (by simp [pins])
    exact ⟨.int .i64 ((d.keys.length : Nat) : Int), w, .inl (by simp [execOp, ho, resolve, invoke, builtin, ha, hfm, hrun]), _, _, _, _, ρ, List.mem_cons_self, Env.Le.refl ρ, by simp only [AVal.den, e37, Option.map_some], hh, hc⟩
end
end Rt
end Go.Proofs.YtglghnfbkiondaaDoor
end

/-
  RankTables (10): the keys of the ranks, in order, as the machine takes them.
-/
section
namespace Go.Proofs.YtglghnfbkiondaaDoor
open Go.Vm Go.Vm.Rk Go.Vm.Mr Go.Maps
namespace Rt
open Rk

/-- Every record's operation has a code. -/
def Cd (d : Dt) : Prop := ∀ i, i < d.n → 0 ≤ d.c i 2 ∧ d.c i 2 < 15
theorem ents_len (d : Dt) : d.ents.length ≤ d.n := by
  unfold Dt.ents
  rw [List.length_map]; exact d.rows_len d.n
theorem ents_key {d : Dt} (h : Cd d) : ∀ p ∈ d.ents, 0 ≤ p.1 ∧ p.1 < 15 := fun p hp => by
  unfold Dt.ents at hp
  obtain ⟨q, hq, rfl⟩ := List.mem_map.1 hp
  exact (d.rows_all (fun _ => True) (fun k => 0 ≤ k ∧ k < 15) d.n (fun j hj _ => ⟨trivial, h j hj⟩) q hq).2.2.2
theorem key_wf {k : Int} (h : 0 ≤ k ∧ k < 15) : (Lit.int .i64 k).wf = true := by
  have := Go.RowKit.wrap64_wf k
  unfold Go.RowKit.wrap64 at this
  rwa [show (k + 9223372036854775808) % 18446744073709551616 - 9223372036854775808 = k by omega] at this
def RN : Value → Option (DataW Unit × List MemPlace) := fun _ => some (.nil, [])
theorem rd_of {e : MapEntry} {k : Int} (he : e.key = .int .i64 k) (hk : 0 ≤ k ∧ k < 15) : Go.WideElems.rd Tryd.prog 3 RN e = some (.int .i64 k, .nil) := by
  unfold Go.WideElems.rd RN
  rw [he, Go.Maps.keyOf_int_mk Tryd.underlying3 (key_wf hk)]
  rfl
theorem keys_of {m : Array MapEntry} {es : Es} (h : m.toList.map (fun e => (e.key, e.val)) = (es.map fun p => (p.1, Value.agg (p.2.map (Value.int .i64)).toArray)).map kvE) : m.toList.map (·.key) = es.map fun p => Value.int .i64 p.1 := by
  have := congrArg (List.map (·.1)) h
  rw [List.map_map, List.map_map, List.map_map] at this
  exact this
theorem owns_of {es : Es} {w : World} {b : Nat} {F : Nat → Prop} (h : RanksIn es w b F) (hk : ∀ p ∈ es, 0 ≤ p.1 ∧ p.1 < 15) (hl : es.length ≤ 1000) :
    ∃ D0, w.ownsMap Tryd.prog 3 RN b 1000 D0 ∧ (intKeys D0).Perm (es.map (·.1)) ∧ Maps.size D0 ≤ 1000000 := by
  obtain ⟨hn, _, m, cl, hg, hb, hm, _⟩ := h
  have hkeys := keys_of hm
  have hsz : m.size = es.length := by
    have := congrArg List.length hkeys
    simpa using this
  have hrd : ∀ x ∈ m.toList, ∃ k, x.key = .int .i64 k ∧ 0 ≤ k ∧ k < 15 := fun x hx => by
    have : x.key ∈ m.toList.map (·.key) := List.mem_map.2 ⟨x, hx, rfl⟩
    rw [hkeys] at this
    obtain ⟨p, hp, he⟩ := List.mem_map.1 this
    exact ⟨p.1, he.symm, hk p hp⟩
  have hperm := Go.WideShapes.sorted_perm (m.toList.map (Go.WideElems.rg Tryd.prog 3 RN))
  refine ⟨_, ⟨m, cl, hg, ⟨by rw [hsz]; unfold maxLen; omega, ⟨hb.1, hb.2, ?_⟩, fun x hx => ?_⟩, by rw [hsz]; omega, rfl⟩, ?_, ?_⟩
  · rw [hkeys]
    have : (es.map fun p => Value.int .i64 p.1) = (es.map (·.1)).map (Value.int .i64) := by rw [List.map_map]; rfl
    rw [this]
    refine List.Pairwise.map _ (fun a b hab h => hab ?_) hn
    exact (Value.int.inj h).2
  · obtain ⟨k, h1, h2⟩ := hrd x hx
    exact ⟨_, rd_of h1 h2⟩
  · show ((m.toList.map (Go.WideElems.rg Tryd.prog 3 RN)).foldr DataW.insert [] |>.map fun p => Go.intOf p.1).Perm _
    refine (hperm.map _).trans (List.Perm.of_eq ?_)
    rw [List.map_map]
    have e1 : m.toList.map ((fun (p : Lit × DataW Unit) => Go.intOf p.1) ∘ Go.WideElems.rg Tryd.prog 3 RN) = m.toList.map (fun x => match x.key with | .int _ k => k | _ => 0) := by
      refine List.map_congr_left fun x hx => ?_
      obtain ⟨k, h1, h2⟩ := hrd x hx
      simp only [Function.comp, Go.WideElems.rg, rd_of h1 h2, Option.getD_some, h1]; rfl
    rw [e1]
    have e2 := congrArg (List.map fun v : Value => match v with | .int _ k => k | _ => 0) hkeys
    rw [List.map_map, List.map_map] at e2
    exact e2
  · show ((m.toList.map (Go.WideElems.rg Tryd.prog 3 RN)).foldr DataW.insert []).length ≤ _
    rw [hperm.length_eq, List.length_map, Array.length_toList, hsz]; omega
def kE : BT := .cmp .eql (.var 37) (.lit 0)
def spKey : SpG := fun args H nl cs => match args with
  | [.func (.func 40) [] [.ptr lb (.lit (.ofNat 0))]] => match H.get lb with
    | some ⟨.cells [.map l] _ none, _⟩ => match H.get l with
      | some ⟨.big 5 (.var 39), _⟩ => some (two cs kE (.ret .sliceNil H nl ((kE, true) :: cs))
          (.ret (.slice (nl + 1) (.lit 0) (.var 37) (.nv nl)) (H.set (nl + 1) ⟨.arr (.code [.i64] (.var 38)) [.i64] 3 (.var 37) (.lit 0) (some (.nv nl)), true⟩) (nl + 2) ((kE, false) :: cs)))
      | _ => none
    | _ => none
  | _ => none
theorem spKey_ok {d : Dt} (ok : DOk d) (hC : Cd d) {β : Base} (hβ : β.G = Gd d) : SpGOk Tryd.prog β 19 spKey := by
  intro args H nl cs ls ρ w xs hr hx hh hc
  unfold spKey at hr
  split at hr
  rotate_left
  · cases hr
  rename_i lb
  split at hr
  rotate_left
  · cases hr
  rename_i l el rwb hgb
  split at hr
  rotate_left
  · cases hr
  rename_i rw2 hgl
  simp only [Option.some.injEq] at hr
  subst hr
  have hG : (Gd d).at ρ := by have := hh.g; rw [hβ] at this; exact this
  obtain ⟨bb, sv, hNb, hsv, hbl, hcell⟩ := box1 hh hgb
  obtain ⟨b, rfl, hN⟩ := den_map hsv
  obtain rfl := func_args hNb hx
  obtain ⟨b', es, F, hN', hp, hRk⟩ := ranks_of hG hh hgl
  obtain rfl : b' = b := by rw [hN] at hN'; exact (Option.some.inj hN').symm
  have hlen : es.length ≤ 100 := by have := hp.length_eq; have := ents_len d; have := ok.n100; omega
  obtain ⟨D0, hown, hkeys, hmax⟩ := owns_of hRk (fun p hp' => ents_key hC p (hp.mem_iff.1 hp')) (by omega)
  have e37 : (IT.var 37).den ρ = some ((d.keys.length : Nat) : Int) := pin hG (by simp [pins])
  have e38 : (IT.var 38).den ρ = some (encL d.keys) := pin hG (by simp [pins])
  refine (Sv.sortedK bb b' 1000 D0 RN w hbl hcell hown hmax).mono fun e w' ⟨vv, ss, he, hperm, hrow, hnil, hbw⟩ => ?_
  have hk : ss.Perm (d.ents.map (·.1)) := hperm.trans (hkeys.trans (hp.map _))
  have hsl : ss.length = d.keys.length := by rw [hk.length_eq, Dt.keys, sortL_len]
  have hsm : ss.mergeSort (fun x y => decide (x ≤ y)) = d.keys := sortL_eq hk
  rw [hsm, hsl] at hrow
  have hke : kE.den ρ = some (decide (d.keys.length = 0)) := by
    unfold kE
    rw [cmpD e37 (litD 0)]
    simp only [intCmp, Option.some.injEq]
    cases hq : d.keys.length with
    | zero => rfl
    | succ n => simp; omega
  by_cases h0 : d.keys.length = 0
  · have ht : kE.den ρ = some true := by rw [hke]; simp [h0]
    have hv := hnil.2 (List.length_eq_zero_iff.1 (hsl.trans h0))
    subst hv
    exact ⟨_, he, _, _, _, _, ρ, two_no hc ht, Env.Le.refl ρ, rfl, hh.framed (framed_of_below hbw), c1 ht hc⟩
  · have ht : kE.den ρ = some false := by rw [hke]; simp [h0]
    have ro := rowOut_of (L := d.keys) hrow (fun hv => h0 (by rw [← hsl, hnil.1 hv]; rfl)) (framed_of_below hbw)
    obtain ⟨ρ', hle, hd, hr'⟩ := row_in hh ro e37 e38
    exact ⟨_, he, _, _, _, _, ρ', two_yes hc ht, hle, hd, hr', c1 (BT.den_mono hle ht) (hc.mono hle)⟩
end Rt
end Go.Proofs.YtglghnfbkiondaaDoor
end
