/-
  LinearSearch (8): IndexFunc as the machine takes it; what a search is in memory.
-/
import Derived.Test.YtpgonpjakllnjaaLs7
import Derived.Test.YtpgonpjakllnjaaLs2
section
namespace Go.Proofs.Ytpgonpjakllnjaa
open Go.Vm Go.Vm.Md Lm Lt
namespace Ls

theorem spIx_ok {e : Sd} (ok : SOk e) {vm : Value} {β : Base} (hβ : β.G = Gs e vm) {z : Bool} (no : z = false → e.O = []) : SpGOk Try.prog β 67 (spIx z) := by
  intro args H nl cs ls ρ w xs hr hx hh hc
  have hg : (Gs e vm).at ρ := by have := hh.g; rw [hβ] at this; exact this
  unfold spIx at hr
  split at hr
  · rename_i v a
    cases hb : (AVal.beq v (SO .row) && (hasE (e63 z) H && (Nat.ble nl 500 && (lookC (csO3 z) cs && cellB H a (.ptr 2 (.lit 0)) 54)))) with
    | false => rw [hb] at hr; cases hr
    | true =>
      rw [hb] at hr; simp only [cond_true, Option.some.injEq] at hr
      subst hr
      simp only [Bool.and_eq_true] at hb
      obtain ⟨h0, h1, h2, h3, h4⟩ := hb
      have h500 := Nat.le_of_ble_eq_true h2
      obtain rfl := AVal.beq_eq _ _ h0
      obtain ⟨b, ob, hN, ho, hrel⟩ := cellB_ok hh h4
      have o := ord_of hg h3 hc no ok.o
      have hle : ρ.Le (ρ.put 500 b) := Env.le_put (hh.fresh 500 h500)
      have hr2 := reLe (X := [bxS]) (B := 510) hh hle h1 (fun i hi => by rw [Env.put_other ρ _ (by omega)]; exact hh.fresh i (by omega)) hh.g (fun p hp => by
        rw [List.mem_singleton.1 hp]
        exact ⟨b, ob, Env.put_same .., ho, ABlk.rel_mono hle hrel⟩) (by cases z <;> rfl)
      rw [hβ] at hr2
      have hx2 : AVal.denL (ρ.put 500 b) [SO .row, fn63] = some xs := by
        have g0 := AVal.denL_mono hle _ hx
        have e1 : fn63.den (ρ.put 500 b) = (AVal.func (.func 63) [] [.ptr a (.lit (.ofNat 0))]).den (ρ.put 500 b) := by
          simp only [fn63, AVal.den, AVal.denL, Env.put_same, hle.n _ _ hN]
          rfl
        simp only [AVal.denL, e1]
        simp only [AVal.denL] at g0
        exact g0
      refine spV_ok (idx63 ok hr2 (o.of_le hle) hx2) ?_ hh hc
      have e70 : (IT.var 70).den ρ = some (fstT (doneQ e.d e.O) e.d.m) := pinS hg (by simp [Sd.pinsS])
      simp only [AVal.den, e70, Option.map_some]
  · rename_i v b0 a
    split at hr
    rotate_left
    · cases hr
    rename_i u hu0
    cases hb : (AVal.beq v lv && (hasE (e65 z) H && (Nat.ble nl 500 && (lookC (Lt.inL u) cs && cellB H a (.ptr 2 (.lit 0)) 54)))) with
    | false => rw [hb] at hr; cases hr
    | true =>
      rw [hb] at hr; simp only [cond_true, Option.some.injEq] at hr
      subst hr
      simp only [Bool.and_eq_true] at hb
      obtain ⟨h0, h1, h2, h3, h4⟩ := hb
      have h500 := Nat.le_of_ble_eq_true h2
      obtain rfl := AVal.beq_eq _ _ h0
      obtain ⟨b, ob, hN, ho, hrel⟩ := cellB_ok hh h4
      obtain ⟨b2, o2, hN2, ho2, hrel2⟩ := intC_ok hh hu0
      obtain ⟨k, hu, hk⟩ := inL_of (gsD hg) (C := []) (by rw [List.append_nil]; exact h3) hc
      have hk0 : 0 ≤ k := by simp only [Dt.inR, Bool.and_eq_true, decide_eq_true_eq] at hk; exact hk.1
      have l1 : ρ.Le (ρ.put 500 b) := Env.le_put (hh.fresh 500 h500)
      have f1 : (ρ.put 500 b).N 501 = none := by rw [Env.put_other ρ _ (by omega)]; exact hh.fresh 501 (by omega)
      have l2 : (ρ.put 500 b).Le ((ρ.put 500 b).put 501 b2) := Env.le_put f1
      have f2 : ((ρ.put 500 b).put 501 b2).N 502 = none := by rw [Env.put_other _ _ (by omega), Env.put_other ρ _ (by omega)]; exact hh.fresh 502 (by omega)
      have l3 : ((ρ.put 500 b).put 501 b2).Le (((ρ.put 500 b).put 501 b2).put 502 k.toNat) := Env.le_put f2
      have hle := (l1.trans l2).trans l3
      have n500 : (((ρ.put 500 b).put 501 b2).put 502 k.toNat).N 500 = some b := l3.n _ _ (l2.n _ _ (Env.put_same ..))
      have n501 : (((ρ.put 500 b).put 501 b2).put 502 k.toNat).N 501 = some b2 := l3.n _ _ (Env.put_same ..)
      have hn : n502.den (((ρ.put 500 b).put 501 b2).put 502 k.toNat) = some k := by
        have : (IT.nv 502).den (((ρ.put 500 b).put 501 b2).put 502 k.toNat) = some ((k.toNat : Nat) : Int) := nvD (Env.put_same ..)
        unfold n502
        rw [this, Int.toNat_of_nonneg hk0]
      have hr2 := reLe (X := [bxS, bxI]) (B := 510) hh hle h1 (fun i hi => by rw [Env.put_other _ _ (by omega), Env.put_other _ _ (by omega), Env.put_other ρ _ (by omega)]; exact hh.fresh i (by omega)) hh.g (fun p hp => by
        simp only [List.mem_cons, List.not_mem_nil, or_false] at hp
        rcases hp with rfl | rfl
        · exact ⟨b, ob, n500, ho, ABlk.rel_mono hle hrel⟩
        · refine ⟨b2, o2, n501, ho2, one_rel (ρ := ρ) (v := .int .i64 u) ?_ hrel2⟩
          have hn' : (IT.nv 502).den (((ρ.put 500 b).put 501 b2).put 502 k.toNat) = some k := hn
          simp only [AVal.den, hn', hu]) (by cases z <;> rfl)
      rw [hβ] at hr2
      have hx2 : AVal.denL (((ρ.put 500 b).put 501 b2).put 502 k.toNat) [lv, fn65] = some xs := by
        have g0 := AVal.denL_mono hle _ hx
        have e1 : fn65.den (((ρ.put 500 b).put 501 b2).put 502 k.toNat) = (AVal.func (.func 65) [] [.ptr b0 (.lit (.ofNat 0)), .ptr a (.lit (.ofNat 0))]).den (((ρ.put 500 b).put 501 b2).put 502 k.toNat) := by
          simp only [fn65, AVal.den, AVal.denL, n500, n501, hle.n _ _ hN, hle.n _ _ hN2]
          rfl
        simp only [AVal.denL, e1]
        simp only [AVal.denL] at g0
        exact g0
      refine spV_ok (idx65 (z := z) ok hk hn hr2 hx2) ?_ hh hc
      have e86 : (IT.fn 86 u (.lit 0)).den ρ = some (fstT (freeQ e.d e.L k) e.L.length) := by
        rw [fnD hu (litD 0), hg.2.2.2.2.2.2.2.2.2.1]; rfl
      simp only [AVal.den, e86, Option.map_some]
  · cases hr
-- MEMORY
/-- A row of ints that may be written. -/
def RowIn (w : World) (a cap : Nat) (L : List Int) : Prop := ∃ c fr, w.heap[a]? = some (.cells c 3 fr) ∧ L.map (Value.int .i64) <+: c.toList ∧ c.size = cap ∧ FrOk fr c.size
def RowRo (w : World) (a : Nat) (L : List Int) : Prop := ∃ c fr el, w.heap[a]? = some (.cells c el fr) ∧ L.map (Value.int .i64) <+: c.toList
def OrdIn (w : World) (O : List Int) (v : Value) : Option Nat → Prop
  | none => v = .slice none 0 0 ∧ O = []
  | some a => ∃ cap, v = .slice (some ⟨a, 0, none⟩) O.length cap ∧ RowIn w a cap O
/-- A search's block. -/
def SIn (w : World) (bs : Nat) (v0 v1 : Value) (O : List Int) (oA : Option Nat) (vL : Value) : Prop :=
  ∃ c fr vo, w.heap[bs]? = some (.cells c 56 fr) ∧ c.toList = [v0, v1, vo, vL] ∧ FrOk fr c.size ∧ OrdIn w O vo oA
/-- A row that came in, from the beginning of a slice. -/
def AVr (w : World) (ks : List IntKind) (v : Value) (n b o c : Nat) (L : List Int) : Prop :=
  v = .slice (some ⟨b, o, none⟩) n c ∧ 1 ≤ n ∧ L.length = n * ks.length ∧ ∃ cc fr el, w.heap[b]? = some (.cells cc el fr) ∧ o ≤ cc.size ∧ rowOf ks L <+: cc.toList.drop o
/-- A search's block, where an order was found. -/
def SYes (w : World) (bs : Nat) (v0 v1 : Value) (O : List Int) (oA : Option Nat) : Prop :=
  ∃ c fr vo rest, w.heap[bs]? = some (.cells c 56 fr) ∧ c.toList = v0 :: v1 :: vo :: rest ∧ FrOk fr c.size ∧ OrdIn w O vo oA
structure OnPost (w w' : World) (bs : Nat) (v0 v1 : Value) (O : List Int) (oA : Option Nat) (vL : Value) (res : Option (List Int)) (v : Value) : Prop where
  val : v = .bool res.isSome
  ex : ∃ oA', (∀ a, oA' = some a → oA = some a ∨ w.heap.size ≤ a) ∧ (res = none → SIn w' bs v0 v1 O oA' vL) ∧ ∀ R, res = some R → SYes w' bs v0 v1 R oA'
  size : w.heap.size ≤ w'.heap.size
  same : ∀ y, y < w.heap.size → y ≠ bs → oA ≠ some y → w'.heap[y]? = w.heap[y]?
  tape : w'.tape = w.tape
  os : w'.os = w.os
  out : w'.output = w.output
/-- What 'on' does, where so many are left. -/
def OnC (d : Dt) (n : Nat) : Prop := ∀ (w : World) (O L : List Int) (mo : Mod) (bs : Nat) (v0 v1 : Value) (oA : Option Nat) (bm : Nat) (F : Nat → Prop) (b0 o0 c0 b1 o1 bL capL : Nat),
  L.length = n → SOk ⟨d, O, L, mo, n⟩ → O.length + L.length ≤ 60 → AVr w ksR v0 d.n b0 o0 c0 (decL d.x) → AVr w [.i64] v1 d.m b1 o1 d.q (decL d.y) → RowRo w bL L → SIn w bs v0 v1 O oA (.slice (some ⟨bL, 0, none⟩) L.length capL) →
  ModelIn w bm F mo.Q mo.M mo.S → ModOk mo.Q mo.M mo.S → bs ≠ b0 → bs ≠ b1 → bs ≠ bL → (∀ a, oA = some a → a ≠ bs ∧ a ≠ b0 ∧ a ≠ b1 ∧ a ≠ bL ∧ ¬ F a) → ¬ F bs → ¬ F b0 → ¬ F b1 → ¬ F bL →
  Calls Try.prog 21 #[.pointer (some ⟨bs, 0, none⟩), .pointer (some ⟨bm, 0, none⟩)] w fun r w' => ∃ v, r = .returned v ∧ OnPost w w' bs v0 v1 O oA (.slice (some ⟨bL, 0, none⟩) L.length capL) (onP d (n + 1) mo O L) v
theorem onP_pre {d : Dt} : ∀ {f : Nat} {m : Mod} {O L R : List Int}, onP d f m O L = some R → O <+: R
  | 0, m, O, L, R, h => by
    simp only [onP] at h
    split at h
    · cases h; exact List.prefix_refl _
    · cases h
  | f + 1, m, O, L, R, h => by
    simp only [onP] at h
    split at h
    · cases h; exact List.prefix_refl _
    · obtain ⟨i, _, hi⟩ := firstS_some h
      unfold tryP at hi
      split at hi
      · exact (List.prefix_append _ _).trans (onP_pre hi)
      · cases hi
end Ls
end Go.Proofs.Ytpgonpjakllnjaa
end

/-
  LinearSearch (9): 'on', called with one fewer left.
-/
section
namespace Go.Proofs.Ytpgonpjakllnjaa
open Go.Vm Go.Vm.Md Lm Lt
namespace Ls

theorem cells_list {ρ : Env} {vals : List AVal} {xs : List Value} {c : Array Value} (hd : AVal.denL ρ vals = some xs) (hp : xs <+: c.toList) (hs : c.size = vals.length) : c.toList = xs := by
  have := AVal.denL_length hd
  exact (hp.eq_of_length (by rw [this, ← hs, Array.length_toList])).symm
theorem denL4 {ρ : Env} {a b c d : AVal} {xs : List Value} (h : AVal.denL ρ [a, b, c, d] = some xs) : ∃ x y z u, a.den ρ = some x ∧ b.den ρ = some y ∧ c.den ρ = some z ∧ d.den ρ = some u ∧ xs = [x, y, z, u] := by
  simp only [AVal.denL] at h
  cases ha : a.den ρ with
  | none => rw [ha] at h; cases h
  | some x =>
  cases hb : b.den ρ with
  | none => rw [ha, hb] at h; cases h
  | some y =>
  cases hc : c.den ρ with
  | none => rw [ha, hb, hc] at h; cases h
  | some z =>
  cases hd : d.den ρ with
  | none => rw [ha, hb, hc, hd] at h; cases h
  | some u =>
    rw [ha, hb, hc, hd] at h
    exact ⟨x, y, z, u, rfl, rfl, rfl, rfl, (Option.some.inj h).symm⟩
theorem ro_of {ρ : Env} {o : Obj} {k : Bool} {t n : IT} {cp : Option IT} {L : List Int} (h : (ABlk.arr (.code [.i64] t) [.i64] 3 n (.lit 0) cp).rel ρ k o) (ht : t.den ρ = some (encL L)) : ∃ c fr el, o = .cells c el fr ∧ L.map (Value.int .i64) <+: c.toList := by
  obtain ⟨ys, c, fr, el, m, b0, rfl, _, hd, hoff, ⟨_, hp⟩, _, _, _, _⟩ := h
  obtain rfl : b0 = 0 := by have := Option.some.inj hoff; exact (Int.ofNat.inj this).symm
  have e : (AT.code [.i64] t).den ρ = some (rowOf [.i64] L) := by simp only [AT.den, ht, Option.map_some, decL_encL]
  obtain rfl : ys = _ := Option.some.inj (hd.symm.trans e)
  rw [List.drop_zero, rowOf1] at hp
  exact ⟨c, fr, el, rfl, hp⟩
/-- The order's row, with one more. -/
theorem boO_in {e : Sd} {z : Bool} {ρ : Env} {w : World} {bo co : Nat} {o : Obj} {v : Int} {vo : Value} {lo : Nat} (ord : Ord e z ρ) (hv : vL.den ρ = some v) (hN : ρ.N lo = some bo) (ho : w.heap[bo]? = some o) (h : (boO co z).rel ρ true o) (hvo : (AVal.slice lo (.lit 0) (nO1 z) (.nv co)).den ρ = some vo) : OrdIn w (e.O ++ [v]) vo (some bo) := by
  cases z with
  | false =>
    have h0 := ord.no rfl
    obtain ⟨xs, c, fr, rfl, hd, hp, ⟨_, cap, hN2, hsz⟩, hf⟩ := h
    have e1 : (AVal.int .i64 vL).den ρ = some (.int .i64 v) := by simp only [AVal.den, hv, Option.map_some]
    simp only [AVal.denL, e1, Option.some.injEq] at hd
    subst hd
    refine ⟨cap, ?_, c, fr, ho, by rw [h0]; exact hp, by omega, hf rfl⟩
    rw [h0]
    exact Option.some.inj (hvo.symm.trans (den_slice_of hN rfl rfl (nvD hN2)))
  | true =>
    obtain ⟨ys, c, fr, el, m, b0, rfl, hel, hd, hoff, ⟨_, hp⟩, hn, hty, ⟨cap, hcap, hroom⟩, hf⟩ := h
    obtain rfl := hel rfl
    obtain rfl : b0 = 0 := by have := Option.some.inj hoff; exact (Int.ofNat.inj this).symm
    have e20 : (IT.var 20).den ρ = some (e.O.length : Int) := varD (ord.i20 rfl)
    have hle := ord.le
    have e1 : (nO1 true).den ρ = some ((e.O.length + 1 : Nat) : Int) := upD e20 (by omega)
    have e2 : (AT.code [.i64] (.var 21)).den ρ = some (rowOf [.i64] e.O) := by
      have : (IT.var 21).den ρ = some (encL e.O) := varD (ord.i21 rfl)
      simp only [AT.den, this, Option.map_some, decL_encL]
    have e3 : AVal.denL ρ [.int .i64 vL] = some [.int .i64 v] := denL1 (by simp only [AVal.den, hv, Option.map_some])
    simp only [AT.den] at e2
    simp only [AT.den, e2, e3, Option.some.injEq] at hd
    subst hd
    refine ⟨cap, ?_, c, fr, ho, ?_, ?_, hf rfl⟩
    · rw [List.length_append]
      exact Option.some.inj (hvo.symm.trans (den_slice_of hN rfl e1 hcap))
    · rw [List.drop_zero, rowOf1] at hp
      rw [List.map_append]; exact hp
    · have : c.size - 0 = cap * 1 := hroom
      omega
theorem modT_den {e : Sd} {vm : Value} {ρ : Env} (hg : (Gs e vm).at ρ) {v : Int} (hv : vL.den ρ = some v) : modT.den ρ = some (e.d.go e.mo v).2.code := by
  have e68 : (IT.var 68).den ρ = some e.mo.code := pinS hg (by simp [Sd.pinsS])
  have hd := gsD hg
  have eo := opT_den (rT_den hd hv 2) (rT_den hd hv 3) (rT_den hd hv 4) (rT_den hd hv 5)
  obtain ⟨_, _, _, _, _, _, g72⟩ := hd.gw
  unfold modT
  rw [fnD e68 eo, g72]
  simp only [apO_enc]
  rfl
theorem zoneOk {z : Bool} {co cl : Nat} : boO co z ≠ deB cl := by cases z <;> simp [boO, deB]
/-- The next search. -/
theorem SOk.next {e : Sd} (ok : SOk e) {t : Nat} (ht : t < e.L.length) (hO : e.O.length + e.L.length ≤ 60) (mo : Mod) (n : Nat) : SOk ⟨e.d, e.O ++ [e.L.getD t 0], e.L.eraseIdx t, mo, n⟩ := by
  have hlen : (e.L.eraseIdx t).length = e.L.length - 1 := List.length_eraseIdx_of_lt ht
  have hl := ok.l
  refine ⟨ok.d, ok.hl, ok.hk, ?_, ?_, ok.inM, fun i hi => ?_⟩
  · show (e.O ++ [e.L.getD t 0]).length ≤ 60
    rw [List.length_append]; simp only [List.length_singleton]; omega
  · show (e.L.eraseIdx t).length ≤ 60
    omega
  · have hi' : i < (e.L.eraseIdx t).length := hi
    have hm : (e.L.eraseIdx t).getD i 0 ∈ e.L := by
      rw [List.getD_eq_getElem?_getD, List.getElem?_eq_getElem hi', Option.getD_some]
      exact (List.eraseIdx_sublist _ _).subset (List.getElem_mem _)
    obtain ⟨j, hj, he⟩ := List.getElem_of_mem hm
    have := ok.inL j hj
    rw [List.getD_eq_getElem?_getD, List.getElem?_eq_getElem hj, Option.getD_some, he] at this
    exact this
theorem sub71 {e : Sd} {vm : Value} {ρ : Env} (hg : (Gs e vm).at ρ) (le : e.O.length ≤ 60) : n71.den ρ = some ((e.O.length + 1 : Nat) : Int) ∧ lesT.den ρ = some (e.O.length : Int) := by
  have e71 : (IT.var 71).den ρ = some (e.O.length : Int) := pinS hg (by simp [Sd.pinsS])
  have h1 : n71.den ρ = some ((e.O.length + 1 : Nat) : Int) := upD e71 (by omega)
  refine ⟨h1, ?_⟩
  have hw : IntKind.i64.wrap (((e.O.length + 1 : Nat) : Int) - 1) = (e.O.length : Int) := by
    have := wrap_in .i64 (e.O.length : Int) (by simp only [lo]; omega) (by simp only [hi]; omega)
    rw [← this]; congr 1; omega
  unfold lesT
  simp only [IT.den, h1]
  exact congrArg some hw
theorem orB_rel {ρ : Env} {L : List Int} {x n : IT} {c : Array Value} {fr : Nat × Nat} {nc cap : Nat} (hp : L.map (Value.int .i64) <+: c.toList) (hs : c.size = cap) (hf : FrOk fr c.size) (hx : x.den ρ = some (encL L)) (hn : n.den ρ = some (L.length : Int)) (hc : ρ.N nc = some cap) : (orB nc x n).k.rel ρ true (.cells c 3 fr) :=
  ⟨rowOf [.i64] L, c, fr, 3, L.length, 0, rfl, fun _ => rfl, by simp only [AT.den, hx, Option.map_some, decL_encL], rfl, ⟨Nat.zero_le _, by rw [List.drop_zero, rowOf1]; exact hp⟩, hn, rowOf_typed (by simp), ⟨cap, nvD hc, by show c.size - 0 = cap * 1; omega⟩, fun _ => hf⟩
/-- A row that came in, out of its block. -/
theorem avr_of {ρ : Env} {w : World} {l b on nn cn n : Nat} {ks : List IntKind} {el : TypeId} {xn : Nat} {x : Int} {v : Value} {o : Obj} {rw0 : Bool} (hv : (AVal.slice l (.var on) (.var nn) (.var cn)).den ρ = some v) (hN : ρ.N l = some b) (ho : w.heap[b]? = some o) (hr : (ABlk.arr (.code ks (.var xn)) ks el (.var nn) (.var on) none).rel ρ rw0 o) (hx : ρ.I xn = x) (hn : ρ.I nn = (n : Int)) (h1 : 1 ≤ n) (hl : (decL x).length = n * ks.length) :
    ∃ o0 c0, AVr w ks v n b o0 c0 (decL x) ∧ ρ.I cn = (c0 : Int) := by
  obtain ⟨bb, o0, n', c0, rfl, g1, g2, g3, g4⟩ := den_slice hv
  rw [hN] at g1; cases g1
  obtain ⟨ys, c, fr, el', m, b0, rfl, _, hd, hoff, ⟨hb0, hp⟩, _, _, _, _⟩ := hr
  obtain rfl : b0 = o0 := by have := Option.some.inj (hoff.symm.trans g2); exact Int.ofNat.inj this
  obtain rfl : n' = n := by
    have h3 := Option.some.inj g3
    rw [hn] at h3
    exact (Int.ofNat.inj h3).symm
  have e : (AT.code ks (.var xn)).den ρ = some (rowOf ks (decL x)) := by simp only [AT.den, IT.den, hx, Option.map_some]
  obtain rfl : ys = _ := Option.some.inj (hd.symm.trans e)
  exact ⟨b0, c0, ⟨rfl, h1, hl, c, fr, el', ho, hb0, hp⟩, Option.some.inj g4⟩
theorem spOn_ok {e : Sd} (ok : SOk e) {vm : Value} {β : Base} (hβ : β.G = Gs e vm) {z : Bool} (no : z = false → e.O = []) (hO : e.O.length + e.L.length ≤ 60) (hf : e.f = e.L.length) (ih : ∀ n, n + 1 = e.L.length → OnC e.d n) : SpGOk Try.prog β 21 (spOn z) := by
  intro args H nl cs ls ρ w xs hr hx hh hc
  have hg : (Gs e vm).at ρ := by have := hh.g; rw [hβ] at this; exact this
  have hd := gsD hg
  unfold spOn at hr
  split at hr
  rotate_left
  · cases hr
  rename_i lm
  split at hr
  rotate_left
  · cases hr
  rename_i a b lo no1 co ll n1 cl c hs hbig
  split at hr
  rotate_left
  · cases hr
  rename_i bo bl rwl hlo hll
  cases hb : (AVal.beq a (SL .row) && (AVal.beq b (SO .row) && (IT.beq c modT && (IT.beq no1 (nO1 z) && (ABlk.beq bo (boO co z) && (IT.beq n1 lnT && (ABlk.beq bl (deB cl) && (hasE [(0, bL), (1, bO)] H && lookC (csOn z) cs)))))))) with
  | false => rw [hb] at hr; cases hr
  | true =>
    rw [hb] at hr; simp only [cond_true] at hr
    simp only [Bool.and_eq_true] at hb
    obtain ⟨h1, h2, h3, h4, h5, h6, h7, h8, h9⟩ := hb
    obtain rfl := AVal.beq_eq _ _ h1
    obtain rfl := AVal.beq_eq _ _ h2
    obtain rfl := IT.beq_eq h3
    obtain rfl := IT.beq_eq h4
    obtain rfl := ABlk.beq_eq h5
    obtain rfl := IT.beq_eq h6
    obtain rfl := ABlk.beq_eq h7
    obtain ⟨t, hi, hlt⟩ := at_of hg h9 hc
    have ord := ord_of hg (lookC_app h9) hc no ok.o
    have e9 : at9.den ρ = some (t : Int) := varD hi
    have ev : vL.den ρ = some (e.L.getD t 0) := lT_den hg e9
    obtain ⟨n, hn⟩ : ∃ n, n + 1 = e.L.length := ⟨e.L.length - 1, by omega⟩
    have hlen : (e.L.eraseIdx t).length = n := by rw [List.length_eraseIdx_of_lt hlt]; omega
    -- the blocks
    obtain ⟨bs, os, hNs, hos, ys, cc, fr, rfl, hden, hpre, htail, hfr⟩ := hh.blk _ _ hs
    have hcl := cells_list hden hpre htail
    obtain ⟨v0, v1, vo, vL', d0, d1, d2, d3, rfl⟩ := denL4 hden
    obtain ⟨bo', oo, hNo, hoo, hro⟩ := hh.blk _ _ hlo
    obtain ⟨bl', ol, hNl, hol, hrl⟩ := hh.blk _ _ hll
    have e81 : (IT.fn 81 at9 (.lit 0)).den ρ = some (encL (e.L.eraseIdx t)) := by
      rw [fnD e9 (litD 0), hg.2.2.2.2.1]
      show some (encL (e.L.eraseIdx ((t : Int)).toNat)) = _
      rw [Int.toNat_natCast]
    have hord := boO_in ord ev hNo hoo hro d2
    obtain ⟨cL, frL, elL, rfl, hpL⟩ := ro_of hrl e81
    obtain ⟨bb, of4, nn, capL, rfl, g1, g2, g3, g4⟩ := den_slice d3
    rw [hNl] at g1; cases g1
    obtain rfl : of4 = 0 := by have := Option.some.inj g2; exact (Int.ofNat.inj this).symm
    have eln := ln_den hg ok.l (by omega)
    obtain rfl : nn = (e.L.eraseIdx t).length := by
      have := Option.some.inj (g3.symm.trans eln)
      have := Int.ofNat.inj this
      rw [hlen]; omega
    obtain ⟨Fp, hB⟩ := hh.big
    have hbg := bigM_get hbig
    obtain ⟨bm, y, hNm, hcx, ⟨_, Q, M, S, hy, s, mok⟩, _⟩ := hB.ok _ _ _ _ hbg
    have emod := modT_den hg ev
    have hym : (e.d.go e.mo (e.L.getD t 0)).2.code = y := Option.some.inj (emod.symm.trans hcx)
    obtain ⟨rfl, rfl, rfl⟩ : Q = (e.d.go e.mo (e.L.getD t 0)).2.Q ∧ M = (e.d.go e.mo (e.L.getD t 0)).2.M ∧ S = (e.d.go e.mo (e.L.getD t 0)).2.S := by
      have h1 := congrArg Mod.of (hym.trans hy)
      rw [Mod.of_code, show encL [encL Q, encL M, encL S] = (⟨Q, M, S⟩ : Mod).code from rfl, Mod.of_code] at h1
      rw [h1]; exact ⟨rfl, rfl, rfl⟩
    have hE : ∀ p ∈ [(0, bL), (1, bO)], ∃ r, H.get p.1 = some ⟨p.2, r⟩ := fun p hp => by
      have q := List.all_eq_true.1 h8 p hp
      split at q
      · rename_i k hk
        rw [← ABlk.beq_eq q]; exact ⟨k.rw, hk⟩
      · cases q
    obtain ⟨r0, hg0⟩ := hE (0, bL) (by simp)
    obtain ⟨r1, hg1⟩ := hE (1, bO) (by simp)
    obtain ⟨b0, ob0, hN0, hob0, hr0⟩ := hh.blk _ _ hg0
    obtain ⟨b1, ob1, hN1, hob1, hr1⟩ := hh.blk _ _ hg1
    have n1' : 1 ≤ e.d.n := by have := ok.d.kl; rw [ok.hl] at this; exact this
    have m1' : 1 ≤ e.d.m := by have := ok.d.ko; rw [ok.hk] at this; exact this
    obtain ⟨o0, c0, av0, _⟩ := avr_of (l := 0) (on := 62) (nn := 36) (cn := 63) d0 hN0 hob0 hr0 (Option.some.inj (pX hd)) (Option.some.inj (pN hd)) n1' ok.d.lx
    obtain ⟨o1, c1', av1, hc1⟩ := avr_of (l := 1) (on := 64) (nn := 38) (cn := 65) d1 hN1 hob1 hr1 (Option.some.inj (pY hd)) (Option.some.inj (pM hd)) m1' (by rw [ok.d.ly]; simp)
    obtain rfl : c1' = e.d.q := by
      have h3 := Option.some.inj (pQ hd)
      rw [hc1] at h3
      exact Int.ofNat.inj h3
    have ne2 : ∀ {l k x}, H.get l = some k → ρ.N l = some x → l ≠ 2 → bs ≠ x := fun {l k x} hl hx hne he => hne (hh.inj 2 l _ _ hs hl rfl (by rw [hNs, hx, he])).symm
    have neo : ∀ {l k x}, H.get l = some k → ρ.N l = some x → l ≠ lo → bo' ≠ x := fun {l k x} hl hx hne he => hne (hh.inj lo l _ _ hlo hl rfl (by rw [hNo, hx, he])).symm
    have lo2 : lo ≠ 2 := fun he => by
      rw [he, hs] at hlo
      cases z <;> simp [boO] at hlo
    have lol : lo ≠ ll := fun he => by
      rw [he, hll] at hlo
      exact zoneOk (HB.mk.inj (Option.some.inj hlo)).1.symm
    have lo0 : lo ≠ 0 := fun he => by
      rw [he, hg0] at hlo
      cases z <;> simp [boO, bL] at hlo
    have lo1 : lo ≠ 1 := fun he => by
      rw [he, hg1] at hlo
      cases z <;> simp [boO, bO] at hlo
    have ll2 : ll ≠ 2 := fun he => by
      rw [he, hs] at hll
      simp [deB] at hll
    have farm : ∀ {l k x}, H.get l = some k → k.k.nb = true → ρ.N l = some x → ¬ Fp lm x := fun {l k x} hl hnb hx hF => by
      refine (hB.apart lm l 0 _ _ _ hbg hl (fun he => ?_) x hF).1 hx
      rw [← he, hbg] at hl
      cases hl; cases hnb
    have fs := farm hs rfl hNs
    have f0 := farm hg0 rfl hN0
    have f1 := farm hg1 rfl hN1
    have fl := farm hll rfl hNl
    have fo := farm hlo (by cases z <;> rfl) hNo
    have hx' : AVal.denL ρ [.ptr 2 (.lit 0), .ptr lm (.lit 0)] = some [.pointer (some ⟨bs, 0, none⟩), .pointer (some ⟨bm, 0, none⟩)] := denL2 (by simp only [AVal.den, hNs]; rfl) (by simp only [AVal.den, hNm]; rfl)
    obtain rfl : _ = xs := Option.some.inj (hx'.symm.trans hx)
    have hcall := ih n hn w (e.O ++ [e.L.getD t 0]) (e.L.eraseIdx t) (e.d.go e.mo (e.L.getD t 0)).2 bs v0 v1 (some bo') bm (Fp lm) b0 o0 c0 b1 o1 bl' capL hlen (ok.next hlt hO _ n) (by rw [List.length_append, hlen]; simp only [List.length_singleton]; omega) av0 av1 ⟨cL, frL, elL, hol, hpL⟩ ⟨cc, fr, vo, hos, hcl, hfr rfl, hord⟩ s mok (ne2 hg0 hN0 (by decide)) (ne2 hg1 hN1 (by decide)) (ne2 hll hNl ll2)
      (fun a ha => by cases ha; exact ⟨fun he => (ne2 hlo hNo lo2) he.symm, neo hg0 hN0 (fun h => lo0 h.symm), neo hg1 hN1 (fun h => lo1 h.symm), neo hll hNl (fun h => lol h.symm), fo⟩) fs f0 f1 fl
    have hrc : onP e.d (n + 1) (e.d.go e.mo (e.L.getD t 0)).2 (e.O ++ [e.L.getD t 0]) (e.L.eraseIdx t) = e.rc t := by
      unfold Sd.rc Sd.at_
      rw [hf, ← hn]
    rw [hrc] at hcall
    have e82 : (IT.fn 82 at9 (.lit 0)).den ρ = some (if (e.rc t).isSome then 1 else 0) := by
      rw [fnD e9 (litD 0), hg.2.2.2.2.2.1]
      show some (if (e.rc ((t : Int)).toNat).isSome then (1 : Int) else 0) = _
      rw [Int.toNat_natCast]
    have e83 : (IT.fn 83 at9 (.lit 0)).den ρ = some (encL ((e.rc t).getD [])) := by
      rw [fnD e9 (litD 0), hg.2.2.2.2.2.2.1]
      show some (encL ((e.rc ((t : Int)).toNat).getD [])) = _
      rw [Int.toNat_natCast]
    have e84 : (IT.fn 84 at9 (.lit 0)).den ρ = some (((e.rc t).getD []).length : Int) := by
      rw [fnD e9 (litD 0), hg.2.2.2.2.2.2.2.1]
      show some ((((e.rc ((t : Int)).toNat).getD []).length : Nat) : Int) = _
      rw [Int.toNat_natCast]
    refine hcall.mono fun r w' ⟨v, he, post⟩ => ?_
    obtain ⟨oA', hoA, hnone, hsome⟩ := post.ex
    have same' : ∀ y, y < w.heap.size → y ≠ bs → y ≠ bo' → w'.heap[y]? = w.heap[y]? := fun y hy hy1 hy2 => post.same y hy hy1 (fun h => hy2 (Option.some.inj h).symm)
    split at hr
    · -- found
      rename_i hlook
      cases hr
      have hlk := lookB_ok hlook hc
      unfold onT at hlk
      rw [cmpD e82 (litD 1)] at hlk
      obtain ⟨R, hR⟩ : ∃ R, e.rc t = some R := by
        cases hrct : e.rc t with
        | some R => exact ⟨R, rfl⟩
        | none => rw [hrct] at hlk; simp [intCmp] at hlk
      obtain ⟨c2', fr2, vo2, rest, hos2, hcl2, hfr2, hord2⟩ := hsome R hR
      have hRne : R ≠ [] := fun h0 => by
        have hp := onP_pre (d := e.d) (show onP e.d e.f (e.d.go e.mo (e.L.getD t 0)).2 (e.O ++ [e.L.getD t 0]) (e.L.eraseIdx t) = some R from hR)
        rw [h0] at hp
        have := hp.length_le
        simp at this
      cases hoA2 : oA' with
      | none => rw [hoA2] at hord2; exact absurd hord2.2 hRne
      | some a2 =>
        rw [hoA2] at hord2
        obtain ⟨cap2, rfl, c3, fr3, hor, hpr, hsz3, hfr3⟩ := hord2
        have ha2 : a2 = bo' ∨ w.heap.size ≤ a2 := (hoA a2 hoA2).imp (fun h => (Option.some.inj h).symm) id
        have k1 := (hh.num cap2).num c2'.size
        have l1 := Env.le_put (b := cap2) (hh.fresh nl (Nat.le_refl _))
        have l2 := Env.le_put (b := c2'.size) ((hh.num cap2).fresh (nl + 1) (Nat.le_refl _))
        have l3 := Env.le_put (b := a2) (k1.fresh (nl + 1 + 1) (Nat.le_refl _))
        have l12 := l1.trans l2
        have hall := l12.trans l3
        have gR : (e.rc t).getD [] = R := by rw [hR]; rfl
        rw [gR] at e83 e84
        have q83 := IT.den_mono hall e83
        have q84 := IT.den_mono hall e84
        have qn : (((ρ.put nl cap2).put (nl + 1) c2'.size).put (nl + 1 + 1) a2).N nl = some cap2 := l3.n _ _ (l2.n _ _ (Env.put_same ..))
        have qn1 : (((ρ.put nl cap2).put (nl + 1) c2'.size).put (nl + 1 + 1) a2).N (nl + 1) = some c2'.size := l3.n _ _ (Env.put_same ..)
        have qs : (AVal.slice (nl + 2) (.lit 0) (.fn 84 at9 (.lit 0)) (.nv nl)).den (((ρ.put nl cap2).put (nl + 1) c2'.size).put (nl + 1 + 1) a2) = some (.slice (some ⟨a2, 0, none⟩) R.length cap2) := den_slice_of (Env.put_same ..) rfl q84 (nvD qn)
        have hc2s : 3 ≤ c2'.size := by
          have : c2'.toList.length = rest.length + 3 := by rw [hcl2]; rfl
          rw [Array.length_toList] at this
          omega
        have h3 := k1.take2 (ls := 2) (lo := lo) hs rfl rfl (l12.n _ _ hNs) hlo rfl (l12.n _ _ hNo) lo2 post.size same' post.tape post.os post.out (a := a2) ha2 hor hos2 (ko' := (orB nl (.fn 83 at9 (.lit 0)) (.fn 84 at9 (.lit 0))).k) (ks' := .cells [SL .row, SO .row, .slice (nl + 2) (.lit 0) (.fn 84 at9 (.lit 0)) (.nv nl)] 56 (some (nl + 1, 1)))
          (orB_rel hpr hsz3 hfr3 q83 q84 qn) ⟨[v0, v1, .slice (some ⟨a2, 0, none⟩) R.length cap2], c2', fr2, rfl, by simp only [AVal.denL, AVal.den_mono hall _ d0, AVal.den_mono hall _ d1, qs], by rw [hcl2]; exact ⟨rest, rfl⟩, ⟨hc2s, c2'.size, qn1, by rw [Nat.mul_one]⟩, fun _ => hfr2⟩ rfl rfl
        exact ⟨v, he, _, _, _, _, _, List.mem_cons_self, hall, by rw [post.val, hR]; rfl, h3, hc.mono hall⟩
    · -- not found
      rename_i hlook
      cases hr
      have hlk := lookB_ok hlook hc
      unfold onT at hlk
      rw [cmpD e82 (litD 1)] at hlk
      have hR : e.rc t = none := by
        cases hrct : e.rc t with
        | some R => rw [hrct] at hlk; simp [intCmp] at hlk
        | none => rfl
      obtain ⟨c2', fr2, vo2, hos2, hcl2, hfr2, hord2⟩ := hnone hR
      cases hoA2 : oA' with
      | none => rw [hoA2] at hord2; exact absurd hord2.2 (by simp)
      | some a2 =>
        rw [hoA2] at hord2
        obtain ⟨cap2, rfl, c3, fr3, hor, hpr, hsz3, hfr3⟩ := hord2
        have ha2 : a2 = bo' ∨ w.heap.size ≤ a2 := (hoA a2 hoA2).imp (fun h => (Option.some.inj h).symm) id
        have k1 := (hh.num cap2).num 4
        have l1 := Env.le_put (b := cap2) (hh.fresh nl (Nat.le_refl _))
        have l2 := Env.le_put (b := 4) ((hh.num cap2).fresh (nl + 1) (Nat.le_refl _))
        have l3 := Env.le_put (b := a2) (k1.fresh (nl + 1 + 1) (Nat.le_refl _))
        have l12 := l1.trans l2
        have hall := l12.trans l3
        obtain ⟨s71, s70⟩ := sub71 hg ok.o
        have q71 := IT.den_mono hall s71
        have q70 := IT.den_mono hall s70
        have qn : (((ρ.put nl cap2).put (nl + 1) 4).put (nl + 1 + 1) a2).N nl = some cap2 := l3.n _ _ (l2.n _ _ (Env.put_same ..))
        have qs : (AVal.slice (nl + 2) (.lit 0) n71 (.nv nl)).den (((ρ.put nl cap2).put (nl + 1) 4).put (nl + 1 + 1) a2) = some (.slice (some ⟨a2, 0, none⟩) (e.O ++ [e.L.getD t 0]).length cap2) := by
          rw [List.length_append]
          exact den_slice_of (Env.put_same ..) rfl q71 (nvD qn)
        have qc : (cO0 z).den (((ρ.put nl cap2).put (nl + 1) 4).put (nl + 1 + 1) a2) = some (encL e.O) := by
          cases z with
          | false => rw [no rfl]; rfl
          | true => exact IT.den_mono hall (varD (ord.i21 rfl))
        have hprO : e.O.map (Value.int .i64) <+: c3.toList := by
          refine List.IsPrefix.trans ?_ hpr
          rw [List.map_append]; exact List.prefix_append _ _
        have hcap2 : e.O.length + 1 ≤ cap2 := by
          have := hpr.length_le
          simp at this
          omega
        have hc2s : c2'.size = 4 := by
          have : c2'.toList.length = 4 := by rw [hcl2]; rfl
          simpa using this
        have d3' : (AVal.slice ll (.lit 0) lnT (.nv cl)).den (((ρ.put nl cap2).put (nl + 1) 4).put (nl + 1 + 1) a2) = some (.slice (some ⟨bl', 0, none⟩) (e.L.eraseIdx t).length capL) := AVal.den_mono hall _ d3
        have h3 := k1.take2 (ls := 2) (lo := lo) hs rfl rfl (l12.n _ _ hNs) hlo rfl (l12.n _ _ hNo) lo2 post.size same' post.tape post.os post.out (a := a2) ha2 hor hos2 (ko' := (orB nl (cO0 z) lesT).k) (ks' := .cells [SL .row, SO .row, .slice (nl + 2) (.lit 0) n71 (.nv nl), .slice ll (.lit 0) lnT (.nv cl)] 56 none)
          (orB_rel hprO hsz3 hfr3 qc q70 qn) ⟨[v0, v1, .slice (some ⟨a2, 0, none⟩) (e.O ++ [e.L.getD t 0]).length cap2, .slice (some ⟨bl', 0, none⟩) (e.L.eraseIdx t).length capL], c2', fr2, rfl, by simp only [AVal.denL, AVal.den_mono hall _ d0, AVal.den_mono hall _ d1, qs, d3'], by rw [hcl2]; exact List.prefix_refl _, by rw [hc2s]; rfl, fun _ => hfr2⟩ rfl rfl
        refine ⟨v, he, _, _, _, _, _, List.mem_cons_self, hall, by rw [post.val, hR]; rfl, h3, CRel_app.2 ⟨?_, hc.mono hall⟩⟩
        exact qD (litD 0) q70 (by simp [intCmp]) (qD q70 (nvD qn) (by simp [intCmp]; omega) (fun p hp => by cases hp))
    · cases hr
end Ls
end Go.Proofs.Ytpgonpjakllnjaa
end
