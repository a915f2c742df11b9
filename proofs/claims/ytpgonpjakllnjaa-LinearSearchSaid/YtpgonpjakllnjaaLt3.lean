/-
  LinearTells: histories and orders, plainly.
-/
import Derived.Test.YtpgonpjakllnjaaLm11
section
namespace Go.Proofs.Ytpgonpjakllnjaa
open Go.Vm Go.Vm.Md Lm
namespace Lt

/-- What a slice is: nil, of length 0, or a row. -/
inductive Kd where
  | nil
  | zero
  | row
/-- A history of n records, an order of m numbers; the order's room. -/
structure Dt where
  kl : Kd
  ko : Kd
  x : Int
  y : Int
  n : Nat
  m : Nat
  q : Nat
def anyT (p : Nat → Bool) : Nat → Bool
  | 0 => false
  | n + 1 => anyT p n || p n
theorem anyT_true {p : Nat → Bool} : ∀ {n i : Nat}, i < n → p i = true → anyT p n = true
  | n + 1, i, h, hp => by
    rcases Nat.lt_or_ge i n with h1 | h1
    · simp only [anyT, anyT_true h1 hp, Bool.true_or]
    · obtain rfl : i = n := by omega
      simp only [anyT, hp, Bool.or_true]
theorem anyT_step {p : Nat → Bool} {n : Nat} (h : anyT p n = false) (g : p n = false) : anyT p (n + 1) = false := by simp only [anyT, h, g, Bool.or_self]
theorem anyT_false {p : Nat → Bool} : ∀ {n i : Nat}, anyT p n = false → i < n → p i = false
  | n + 1, i, h, hi => by
    simp only [anyT, Bool.or_eq_false_iff] at h
    rcases Nat.lt_or_ge i n with h1 | h1
    · exact anyT_false h.1 h1
    · obtain rfl : i = n := by omega
      exact h.2
theorem anyT_of {p : Nat → Bool} : ∀ {n : Nat}, (∀ i, i < n → p i = false) → anyT p n = false
  | 0, _ => rfl
  | n + 1, h => anyT_step (anyT_of fun i hi => h i (by omega)) (h n (by omega))
/-- The first place; -1. -/
def fstT (p : Nat → Bool) : Nat → Int
  | 0 => -1
  | n + 1 => if anyT p n = true then fstT p n else if p n = true then (n : Int) else -1
theorem fstT_at {p : Nat → Bool} : ∀ {n i : Nat}, i < n → anyT p i = false → p i = true → fstT p n = (i : Int)
  | n + 1, i, h, h1, h2 => by
    rcases Nat.lt_or_ge i n with h3 | h3
    · rw [fstT, if_pos (anyT_true h3 h2)]; exact fstT_at h3 h1 h2
    · obtain rfl : i = n := by omega
      rw [fstT, if_neg (by rw [h1]; decide), if_pos h2]
theorem fstT_no {p : Nat → Bool} : ∀ {n : Nat}, anyT p n = false → fstT p n = -1
  | 0, _ => rfl
  | n + 1, h => by
    simp only [anyT, Bool.or_eq_false_iff] at h
    rw [fstT, if_neg (by rw [h.1]; decide), if_neg (by rw [h.2]; decide)]
theorem fstT_ge {p : Nat → Bool} : ∀ (n : Nat), decide (0 ≤ fstT p n) = anyT p n
  | 0 => rfl
  | n + 1 => by
    have := fstT_ge (p := p) n
    rw [fstT, anyT]
    cases h1 : anyT p n with
    | true => rw [if_pos rfl, this, h1]; rfl
    | false =>
      rw [if_neg (by decide)]
      cases h2 : p n with
      | true => rw [if_pos rfl]; simp
      | false => rw [if_neg (by decide)]; rfl
namespace Dt
variable (d : Dt)
def o (i : Nat) : Int := (decL d.y).getD i 0
def inR (k : Int) : Bool := decide (0 ≤ k) && decide (k < (d.n : Int))
def c (k : Int) (j : Nat) : Int := cH d.x k.toNat j
def ended (k : Int) : Bool := decide (0 ≤ d.c k 8)
def refd (k : Int) : Bool := decide (0 ≤ d.c k 8) && (decide (d.c k 11 ≠ 0) || decide (d.c k 9 = 5))
def ahead (a b : Int) : Bool := decide (0 ≤ d.c a 8) && decide (d.c a 8 < d.c b 7)
def go (m : Mod) (k : Int) : (Int × Int) × Mod := goH d.x m k.toNat
def stO : Nat → Mod
  | 0 => mod0
  | i + 1 => if d.inR (d.o i) then (d.go (stO i) (d.o i)).2 else stO i
def anO (i : Nat) : Int × Int := (d.go (d.stO i) (d.o i)).1
def ouO : Nat → List Int
  | 0 => []
  | i + 1 => if d.inR (d.o i) then ouO i ++ [(d.anO i).1, (d.anO i).2] else ouO i
def cn : Nat → Nat
  | 0 => 0
  | i + 1 => if d.inR (d.o i) then cn i + 1 else cn i
def hasN (t : Nat) (k : Int) : Bool := anyT (fun j => decide (d.o j = k)) t
def w1 (i : Nat) : Bool := !d.inR (d.o i) || !decide (d.c (d.o i) 1 = 2)
def w2 (i : Nat) : Bool := d.hasN i (d.o i)
def w3 (i : Nat) : Bool := d.refd (d.o i)
def w4 (i : Nat) : Bool := decide (d.c (i : Int) 1 = 2) && d.ended (i : Int) && !d.refd (i : Int) && !d.hasN d.m (i : Int)
def w5 (i : Nat) : Bool := anyT (fun j => d.ahead (d.o i) (d.o j)) i
def w6 (i : Nat) : Bool := d.ended (d.o i) && !(decide ((d.anO i).1 = d.c (d.o i) 9) && decide ((d.anO i).2 = d.c (d.o i) 10))
def mem : Int := if anyT d.w1 d.m then 1 else if anyT d.w2 d.m then 2 else if anyT d.w3 d.m then 3 else if anyT d.w4 d.n then 4 else 0
def wrong : Int := if d.mem ≠ 0 then d.mem else if anyT d.w5 d.m then 5 else if anyT d.w6 d.m then 6 else 0
def late : Int := if anyT d.w5 d.m then 1 else 0
def refs : Int := if anyT d.w3 d.m then 1 else 0
/-- The invocations. -/
def iv : Nat → List Int
  | 0 => []
  | i + 1 => if d.c (i : Int) 1 = 2 then iv i ++ [(i : Int)] else iv i
/-- How often each number of a beginning was seen. -/
def seen : Nat → List Int
  | 0 => []
  | i + 1 => mPut (seen i) (d.o i) ((mGet (seen i) (d.o i)).getD 0 + 1)
theorem cn_le : ∀ i, d.cn i ≤ i
  | 0 => Nat.le_refl _
  | i + 1 => by
    have := cn_le i
    unfold cn; split <;> omega
theorem ou_len : ∀ i, (d.ouO i).length = d.cn i * 2
  | 0 => rfl
  | i + 1 => by
    have := ou_len i
    unfold ouO cn; split
    · rw [List.length_append, this]; show d.cn i * 2 + 2 = _; omega
    · exact this
theorem iv_le : ∀ i, (d.iv i).length ≤ i
  | 0 => Nat.le_refl _
  | i + 1 => by
    have := iv_le i
    unfold iv; split
    · rw [List.length_append]; show (d.iv i).length + 1 ≤ _; omega
    · omega
end Dt
-- THE REFERENCE's MODELS
def encO : Option Int → Int
  | some v => v + 1
  | none => 0
def enM (M : List Int) (j : Nat) : Int := encO (mGet M (j : Int))
def arrL (M : List Int) : List Int := (List.range 256).map (enM M)
/-- How many of a list's numbers are above 0. -/
def cntX (x : Int) : Nat → Nat
  | 0 => 0
  | n + 1 => if 0 < (decL x).getD n 0 then cntX x n + 1 else cntX x n
def f51 (x _ : Int) : Int := encL (arrL (Mod.of x).M)
def f52 (x _ : Int) : Int := encL (arrL (Mod.of x).S)
def f53 (x _ : Int) : Int := encL (Mod.of x).Q
def f54 (x _ : Int) : Int := ((Mod.of x).Q.length : Int)
def f55 (x _ : Int) : Int := (cntX x 256 : Int)
/-- What the arguments are. -/
structure DOk (d : Dt) : Prop where
  lx : (decL d.x).length = d.n * 16
  ly : (decL d.y).length = d.m
  n60 : d.n ≤ 60
  m60 : d.m ≤ 60
  mq : d.m ≤ d.q
  kl : match d.kl with
    | .row => 1 ≤ d.n
    | _ => d.n = 0
  ko : match d.ko with
    | .row => 1 ≤ d.m
    | _ => d.m = 0
end Lt
end Go.Proofs.Ytpgonpjakllnjaa
end

/-
  LinearTells (1): contracts over given names.
-/
section
namespace Go.Proofs.Ytpgonpjakllnjaa
open Go.Vm Go.Vm.Md Lm
namespace Lt

-- CONTRACTS OVER GIVEN NAMES
def hasE (E : List (Nat × ABlk)) (H : Heap) : Bool := E.all fun p => match H.get p.1 with
  | some k => ABlk.beq k.k p.2
  | none => false
def roH (E : List (Nat × ABlk)) : List (Nat × HB) := E.map fun p => (p.1, (⟨p.2, false⟩ : HB))
theorem rel_ro {ρ : Env} {k : ABlk} {o : Obj} {rw : Bool} (h : k.rel ρ rw o) : k.rel ρ false o := by
  cases k with
  | arr t ks elem n off cp =>
    obtain ⟨xs, c, fr, el, m, b, ho, hel, hd, hb, hp, hn, ht, hr, hf⟩ := h
    exact ⟨xs, c, fr, el, m, b, ho, (fun e => by cases e), hd, hb, hp, hn, ht, hr, fun e => by cases e⟩
  | cells vals elem tail =>
    obtain ⟨xs, c, fr, ho, hd, hp, ht, hf⟩ := h
    exact ⟨xs, c, fr, ho, hd, hp, ht, fun e => by cases e⟩
  | map es clock => exact h
  | srow ct elem n cp =>
    obtain ⟨x, c, fr, el, ho, hel, hx, hp, hn, hr, hf⟩ := h
    exact ⟨x, c, fr, el, ho, (fun e => by cases e), hx, hp, hn, hr, fun e => by cases e⟩
  | mapc ct => exact h
  | big k c => exact h
  | iter l since seen last => exact h
section
variable {β : Base} {ρ : Env} {H : Heap} {nl : Nat} {w : World}
theorem ofE (hh : HRel β ρ H nl w) {E : List (Nat × ABlk)} (h : hasE E H = true) {B : Nat} (hn : nl ≤ B) (hnb : (E.all fun p => p.2.nb) = true) : HRel ⟨w, [], β.G⟩ ρ (ofP (roH E)) B w :=
  HRel.ro E (fun p hp => by
    have h1 := List.all_eq_true.1 h p hp
    split at h1
    · rename_i k hk
      obtain ⟨b, o, hb, ho, hr⟩ := hh.blk _ _ hk
      rw [ABlk.beq_eq h1] at hr
      exact ⟨b, o, hb, ho, rel_ro hr⟩
    · cases h1) (fun i hi => hh.fresh i (by omega)) hh.g hnb
def lookC (C cs : Cs) : Bool := C.all fun p => match lookB cs p.1 with
  | some b => cond b p.2 (!p.2)
  | none => false
theorem lookC_ok {C cs : Cs} (h : lookC C cs = true) (hc : CRel ρ cs) : CRel ρ C := fun p hp => by
  have h1 := List.all_eq_true.1 h p hp
  split at h1
  · rename_i b hb
    have := lookB_ok hb hc
    rw [this]
    cases b <;> cases hq : p.2 <;> simp_all
  · cases h1
/-- A function that answers out of what is there: these arguments, these blocks, under these conditions. -/
def spE (B : Nat) (A : List AVal) (E : List (Nat × ABlk)) (C : Cs) (u : AVal) : SpG := fun args H nl cs =>
  cond (AVal.beqL args A && (hasE E H && (Nat.ble nl B && lookC C cs))) (some [.ret u H nl cs]) none
theorem spE_ok {B : Nat} {P : Program} {β : Base} {g : FuncId} {A : List AVal} {E : List (Nat × ABlk)} {C : Cs} {u : AVal} (hnb : (E.all fun p => p.2.nb) = true)
    (h : ∀ ρ w xs, AVal.denL ρ A = some xs → HRel ⟨w, [], β.G⟩ ρ (ofP (roH E)) B w → CRel ρ C → ∃ v, u.den ρ = some v ∧ Calls P g xs.toArray w fun e w' => e = .returned v ∧ Framed w w') : SpGOk P β g (spE B A E C u) := by
  intro args H nl cs ls ρ w xs hr hx hh hc
  unfold spE at hr
  cases hb : (AVal.beqL args A && (hasE E H && (Nat.ble nl B && lookC C cs))) with
  | false => rw [hb] at hr; cases hr
  | true =>
    rw [hb] at hr; simp only [cond_true, Option.some.injEq] at hr
    subst hr
    simp only [Bool.and_eq_true] at hb
    obtain ⟨h1, h2, h3, h4⟩ := hb
    obtain rfl := AVal.beqL_eq _ _ h1
    obtain ⟨v, hu, hcall⟩ := h ρ w xs hx (ofE hh h2 (Nat.le_of_ble_eq_true h3) hnb) (lookC_ok h4 hc)
    exact spV_ok hcall hu hh hc
/-- A function that hands out a new row. -/
def spRow (B : Nat) (A : List AVal) (E : List (Nat × ABlk)) (C : Cs) (nT c : IT) (e : TypeId) (ks : List IntKind) : SpG := fun args H nl cs =>
  cond (AVal.beqL args A && (hasE E H && (Nat.ble nl B && lookC C cs))) (some [.ret (.slice (nl + 1) (.lit 0) nT (.nv nl)) (H.set (nl + 1) ⟨.arr (.code ks c) ks e nT (.lit 0) (some (.nv nl)), true⟩) (nl + 2) cs]) none
theorem spRow_ok {B : Nat} {P : Program} {β : Base} {g : FuncId} {A : List AVal} {E : List (Nat × ABlk)} {C : Cs} {nT c : IT} {e : TypeId} {ks : List IntKind} (hnb : (E.all fun p => p.2.nb) = true)
    (h : ∀ ρ w xs, AVal.denL ρ A = some xs → HRel ⟨w, [], β.G⟩ ρ (ofP (roH E)) B w → CRel ρ C → ∃ L, ∃ m : Nat, nT.den ρ = some (m : Int) ∧ c.den ρ = some (encL L) ∧ Calls P g xs.toArray w fun e' w' => ∃ v, e' = .returned v ∧ RowOut w w' v e ks L m) : SpGOk P β g (spRow B A E C nT c e ks) := by
  intro args H nl cs ls ρ w xs hr hx hh hc
  unfold spRow at hr
  cases hb : (AVal.beqL args A && (hasE E H && (Nat.ble nl B && lookC C cs))) with
  | false => rw [hb] at hr; cases hr
  | true =>
    rw [hb] at hr; simp only [cond_true, Option.some.injEq] at hr
    subst hr
    simp only [Bool.and_eq_true] at hb
    obtain ⟨h1, h2, h3, h4⟩ := hb
    obtain rfl := AVal.beqL_eq _ _ h1
    obtain ⟨L, m, hn, hcd, hcall⟩ := h ρ w xs hx (ofE hh h2 (Nat.le_of_ble_eq_true h3) hnb) (lookC_ok h4 hc)
    refine hcall.mono fun e' w' ⟨v, he, ro⟩ => ?_
    obtain ⟨ρ', hle, hd, hr'⟩ := row_in hh ro hn hcd
    exact ⟨v, he, _, _, _, _, ρ', List.mem_cons_self, hle, hd, hr', hc.mono hle⟩
end
-- THE ARGUMENTS
def Kd.v (l n o c : Nat) : Kd → AVal
  | .nil => .sliceNil
  | .zero => .slice l (.var o) (.lit 0) (.var c)
  | .row => .slice l (.var o) (.var n) (.var c)
def Kd.n (i : Nat) : Kd → IT
  | .row => .var i
  | _ => .lit 0
def Kd.blk (l : Nat) (b : ABlk) : Kd → List (Nat × ABlk)
  | .row => [(l, b)]
  | _ => []
def SL (k : Kd) : AVal := k.v 0 36 62 63
def SO (k : Kd) : AVal := k.v 1 38 64 65
def nL (k : Kd) : IT := k.n 36
def nO (k : Kd) : IT := k.n 38
def ksR : List IntKind := [.i64, .i64, .i64, .i64, .i64, .i64, .i64, .i64, .i64, .i64, .i64, .i64, .i64, .i64, .i64, .u64]
def bL : ABlk := .arr (.code ksR (.var 35)) ksR 31 (.var 36) (.var 62) none
def bO : ABlk := .arr (.code [.i64] (.var 37)) [.i64] 3 (.var 38) (.var 64) none
def EL (k : Kd) : List (Nat × ABlk) := k.blk 0 bL
def EO (k : Kd) : List (Nat × ABlk) := k.blk 1 bO
def EE (k z : Kd) : List (Nat × ABlk) := EL k ++ EO z
theorem nb_EE (k z : Kd) : ((EE k z).all fun p => p.2.nb) = true := by cases k <;> cases z <;> rfl
theorem nb_EL (k : Kd) : ((EL k).all fun p => p.2.nb) = true := by cases k <;> rfl
def csL : Kd → Cs
  | .row => [(.cmp .geq (.var 36) (.lit 1), true), (.cmp .leq (.var 36) (.lit 60), true), (.cmp .leq (.var 36) (.lit 1000000), true)]
  | _ => []
def csO : Kd → Cs
  | .row => [(.cmp .geq (.var 38) (.lit 1), true), (.cmp .leq (.var 38) (.lit 60), true), (.cmp .leq (.var 38) (.lit 1000000), true), (.cmp .leq (.var 38) (.var 65), true)]
  | _ => []
def csE (k z : Kd) : Cs := csL k ++ csO z
/-- The names. -/
noncomputable def pins (d : Dt) : List (Nat × Int) := [(35, d.x), (36, d.n), (37, d.y), (38, d.m), (65, d.q), (40, (d.stO d.m).code), (41, encL (d.ouO d.m)), (42, d.cn d.m), (43, d.mem), (44, d.late), (45, d.wrong), (46, d.refs), (47, encL (d.iv d.n)), (48, (d.iv d.n).length), (49, if anyT d.w1 d.m then 1 else 0), (50, fstT d.w3 d.m)]
def f48 (d : Dt) (a b : Int) : Int := if anyT (fun j => d.ahead b (d.o j)) a.toNat then 1 else 0
def f49 (d : Dt) (a b : Int) : Int := if d.hasN a.toNat b then 1 else 0
def f50 (d : Dt) (a b : Int) : Int := fstT (fun j => d.ahead b (d.o j)) a.toNat
def Gd (d : Dt) : GP := fun I B S V F => (∀ p ∈ pins d, I p.1 = p.2) ∧ GW I B S V F ∧ F 48 = f48 d ∧ F 49 = f49 d ∧ F 50 = f50 d ∧ F 51 = f51 ∧ F 52 = f52 ∧ F 53 = f53 ∧ F 54 = f54 ∧ F 55 = f55
noncomputable def Fd (d : Dt) : Nat → Int → Int → Int := fun k => if k = 48 then f48 d else if k = 49 then f49 d else if k = 50 then f50 d else if k = 51 then f51 else if k = 52 then f52 else if k = 53 then f53 else if k = 54 then f54 else if k = 55 then f55 else FW k
theorem pins30 (d : Dt) : ∀ p ∈ pins d, 30 ≤ p.1 := fun p hp => by
  have h : ((pins d).all fun p => Nat.ble 30 p.1) = true := rfl
  exact Nat.le_of_ble_eq_true (List.all_eq_true.1 h p hp)
theorem Gd.gw {d : Dt} {I B S V F} (h : Gd d I B S V F) : GW I B S V F := h.2.1
section
variable {d : Dt} {ρ : Env}
theorem pin (h : (Gd d).at ρ) {i : Nat} {x : Int} (hp : (i, x) ∈ pins d) : (IT.var i).den ρ = some x := varD (h.1 _ hp)
theorem pX (h : (Gd d).at ρ) : (IT.var 35).den ρ = some d.x := pin h (by simp [pins])
theorem pN (h : (Gd d).at ρ) : (IT.var 36).den ρ = some (d.n : Int) := pin h (by simp [pins])
theorem pY (h : (Gd d).at ρ) : (IT.var 37).den ρ = some d.y := pin h (by simp [pins])
theorem pM (h : (Gd d).at ρ) : (IT.var 38).den ρ = some (d.m : Int) := pin h (by simp [pins])
theorem pQ (h : (Gd d).at ρ) : (IT.var 65).den ρ = some (d.q : Int) := pin h (by simp [pins])
theorem gKeep {σ : Sub} (hs : (σ.I.all fun p => Nat.blt p.1 30) = true) (h : (Gd d).at ρ) : (Gd d).at (σ.app ρ) := by
  have key : ∀ i, 30 ≤ i → (σ.app ρ).I i = ρ.I i := fun i hi => by
    have : lk σ.I i = none := by
      cases hl : lk σ.I i with
      | none => rfl
      | some t =>
        have h1 := List.all_eq_true.1 hs _ (lk_mem hl)
        rw [Nat.blt_eq] at h1
        simp only at h1; omega
    simp only [Sub.app, this]
  refine ⟨fun p hp => ?_, h.2⟩
  have h30 := pins30 d p hp
  have := key p.1 h30
  rw [this]; exact h.1 p hp
theorem dnL (ok : DOk d) (h : (Gd d).at ρ) : (nL d.kl).den ρ = some (d.n : Int) := by
  have hk := ok.kl
  unfold nL
  cases hd : d.kl <;> rw [hd] at hk
  · simp only at hk; rw [hk]; rfl
  · simp only at hk; rw [hk]; rfl
  · exact pN h
theorem dcL (ok : DOk d) (h : (Gd d).at ρ) : CRel ρ (csL d.kl) := by
  have hk := ok.kl; have := ok.n60
  cases hd : d.kl <;> rw [hd] at hk
  · exact c0
  · exact c0
  · simp only at hk
    exact c1 (geqT (pN h) (litD 1) (by omega)) (c1 (leqT (pN h) (litD 60) (by omega)) (c1 (leqT (pN h) (litD _) (by omega)) c0))
theorem dcO (ok : DOk d) (h : (Gd d).at ρ) : CRel ρ (csO d.ko) := by
  have hk := ok.ko; have := ok.m60; have := ok.mq
  cases hd : d.ko <;> rw [hd] at hk
  · exact c0
  · exact c0
  · simp only at hk
    exact c1 (geqT (pM h) (litD 1) (by omega)) (c1 (leqT (pM h) (litD 60) (by omega)) (c1 (leqT (pM h) (litD _) (by omega)) (c1 (leqT (pM h) (pQ h) (by omega)) c0)))
theorem dcE (ok : DOk d) (h : (Gd d).at ρ) : CRel ρ (csE d.kl d.ko) := CRel_app.2 ⟨dcL ok h, dcO ok h⟩
-- CELLS
/-- The order's number at a place; a cell of a record. -/
def oT (a : IT) : IT := .un 0 (.var 37) (.elem (.lit 0) 1 0 a)
def rT (a : IT) (j : Nat) : IT := .un 0 (.var 35) (.elem (.lit 0) 16 j a)
theorem oT_den (h : (Gd d).at ρ) {a : IT} {i : Nat} (ha : a.den ρ = some (i : Int)) : (oT a).den ρ = some (d.o i) := by
  refine (unD (pY h) (elemD (sz := 1) (j := 0) (litD ((0 : Nat) : Int)) ha)).trans ?_
  show some ((decL d.y).getD (((0 + (i * 1 + 0) : Nat) : Int)).toNat 0) = _
  rw [Int.toNat_natCast, show 0 + (i * 1 + 0) = i by omega]; rfl
theorem rT_den (h : (Gd d).at ρ) {a : IT} {k : Int} (ha : a.den ρ = some k) (j : Nat) : (rT a j).den ρ = some (d.c k j) := by
  unfold rT
  simp only [IT.den, h.1 _ (show (35, d.x) ∈ pins d by simp [pins]), ha]
  show some ((decL d.x).getD (Int.toNat (Int.ofNat ((0 : Int).toNat + (k.toNat * 16 + j)))) 0) = _
  rw [show Int.toNat (Int.ofNat ((0 : Int).toNat + (k.toNat * 16 + j))) = k.toNat * 16 + j by
    show (0 : Int).toNat + (k.toNat * 16 + j) = _; simp]
  rfl
end
end Lt
end Go.Proofs.Ytpgonpjakllnjaa
end

/-
  LinearTells (2): loops that look through; the reference's Has; IndexFunc and ContainsFunc over an order.
-/
section
namespace Go.Proofs.Ytpgonpjakllnjaa
open Go.Vm Go.Vm.Md Lm
namespace Lt

-- LOOPS
noncomputable def lb (fn : Func) (j : Nat) : Code := ((loopsOf (fn.body.getD .ret) []).getD j (.ret, [])).1
noncomputable def lq (fn : Func) (j : Nat) : List Item := ((loopsOf (fn.body.getD .ret) []).getD j (.ret, [])).2
/-- A round, from a head; a call, from the beginning. -/
noncomputable def RH (sp : CallF) (f : FuncId) (fn : Func) (j : Nat) (Ts : List Tpl) (T : Tpl) (c : Cs) (l : List LS) : Prop := (run Try.prog [] sp 4000 true f ((⟨T.tm, T.nt, T.H, T.nl, c ++ T.cs, T.dep⟩ : Tpl).st (.code (lb fn j) :: .inLoop (lb fn j) :: lq fn j))).map (·.filterMap (sumD gM Ts)) = some l
noncomputable def RC (sp : CallF) (f : FuncId) (fn : Func) (Ts : List Tpl) (args : List AVal) (H : Heap) (cs : Cs) (l : List LS) : Prop := (run Try.prog [] sp 4000 true f (entry fn (fn.body.getD .ret) args H 500 cs)).map (·.filterMap (sumD gM Ts)) = some l
noncomputable def RCn (nl : Nat) (sp : CallF) (f : FuncId) (fn : Func) (Ts : List Tpl) (args : List AVal) (H : Heap) (cs : Cs) (l : List LS) : Prop := (run Try.prog [] sp 4000 true f (entry fn (fn.body.getD .ret) args H nl cs)).map (·.filterMap (sumD gM Ts)) = some l
section
variable {β : Base} {sp : CallF} {f : FuncId} {fn : Func} {j : Nat} {T : Tpl} {Ts : List Tpl}
/-- What the ends of a round come to. -/
theorem scan (hsp : CallOk Try.prog β sp) (hown : β.own = []) {Q : Value → Prop} (J : Env → Prop) (μ : Env → Nat)
    (hs : ∀ ρ, J ρ → GP.at β.G ρ → CRel ρ T.cs → (∃ w, HRel β ρ (ofP T.H) T.nl w) → (∀ ρ', μ ρ' < μ ρ → J ρ' → ∀ todo a w, todo = .inLoop (lb fn j) :: lq fn j ∨ todo = .code (.loop (lb fn j)) :: lq fn j → SRel β ρ' (T.st todo) a w → Goes Try.prog f (fun v w' => Q v ∧ Framed β.w0 w') todo a w) → ∃ c sums, CRel ρ c ∧ RH sp f fn j Ts T c sums ∧ ∀ s ∈ sums, SumGood Try.prog β f Q Ts ρ s) :
    ∀ ρ, J ρ → ∀ todo a w, todo = .inLoop (lb fn j) :: lq fn j ∨ todo = .code (.loop (lb fn j)) :: lq fn j → SRel β ρ (T.st todo) a w → Goes Try.prog f (fun v w' => Q v ∧ Framed β.w0 w') todo a w :=
  loop_goesD (P := Try.prog) (Q := Q) (Ts := Ts) (n := 4000) (g := gM) (pl := true) noCount noExt hsp follows hown J μ fun ρ hJ hH hcs hG ih => by
    obtain ⟨c, sums, h1, h2, h3⟩ := hs ρ hJ hG hcs hH ih
    exact ⟨c ++ T.cs, sums, CRel_app.2 ⟨h1, hcs⟩, h2, h3⟩
theorem callS (hsp : CallOk Try.prog β sp) (hown : β.own = []) {Q : Value → Prop} {args : List AVal} {xs : List Value} {H : Heap} {cs : Cs} {ρ : Env} {w : World} {sums : List LS} (hf : Try.prog.funcs[f]? = some fn) (hb : fn.body = some (fn.body.getD .ret))
    (hrun : RC sp f fn Ts args H cs sums) (hx : AVal.denL ρ args = some xs) (hr : HRel β ρ H 500 w) (hc : CRel ρ cs) (h : ∀ s ∈ sums, SumGood Try.prog β f Q Ts ρ s) :
    Calls Try.prog f xs.toArray w fun e w' => ∃ v, e = .returned v ∧ Q v ∧ Framed β.w0 w' :=
  calls_sumsD (g := gM) (Ts := Ts) (pl := true) noCount noExt hsp follows hown hf hb hrun hx hr hc h
theorem callSn (hsp : CallOk Try.prog β sp) (hown : β.own = []) {Q : Value → Prop} {nl : Nat} {args : List AVal} {xs : List Value} {H : Heap} {cs : Cs} {ρ : Env} {w : World} {sums : List LS} (hf : Try.prog.funcs[f]? = some fn) (hb : fn.body = some (fn.body.getD .ret))
    (hrun : RCn nl sp f fn Ts args H cs sums) (hx : AVal.denL ρ args = some xs) (hr : HRel β ρ H nl w) (hc : CRel ρ cs) (h : ∀ s ∈ sums, SumGood Try.prog β f Q Ts ρ s) :
    Calls Try.prog f xs.toArray w fun e w' => ∃ v, e = .returned v ∧ Q v ∧ Framed β.w0 w' :=
  calls_sumsD (g := gM) (Ts := Ts) (pl := true) noCount noExt hsp follows hown hf hb hrun hx hr hc h
theorem toE {v : Value} {xs : List Value} {w w0 : World} (h : Calls Try.prog f xs.toArray w fun e w' => ∃ x, e = .returned x ∧ x = v ∧ Framed w0 w') : Calls Try.prog f xs.toArray w fun e w' => e = .returned v ∧ Framed w0 w' :=
  h.mono fun _ _ ⟨_, he, hv, hf⟩ => ⟨by rw [he, hv], hf⟩
end
-- OTHER NAMES
def _root_.Go.Vm.Env.up (ρ : Env) (I' : List (Nat × Int)) (N' : List (Nat × Nat)) : Env :=
  ⟨fun i => (lk I' i).getD (ρ.I i), ρ.B, ρ.S, ρ.V, fun i => (lk N' i).or (ρ.N i), ρ.F⟩
theorem lk_big {α : Type} {l : List (Nat × α)} {b i : Nat} (h : (l.all fun p => Nat.blt p.1 b) = true) (hi : b ≤ i) : lk l i = none := by
  cases hl : lk l i with
  | none => rfl
  | some t =>
    have h1 := List.all_eq_true.1 h _ (lk_mem hl)
    rw [Nat.blt_eq] at h1
    simp only at h1; omega
theorem lk_small {α : Type} {l : List (Nat × α)} {b i : Nat} (h : (l.all fun p => Nat.ble b p.1) = true) (hi : i < b) : lk l i = none := by
  cases hl : lk l i with
  | none => rfl
  | some t =>
    have h1 := Nat.le_of_ble_eq_true (List.all_eq_true.1 h _ (lk_mem hl))
    simp only at h1; omega
theorem bL_rel {ρ ρ2 : Env} {o : Obj} (h : ∀ i, 30 ≤ i → ρ2.I i = ρ.I i) (g : bL.rel ρ false o) : bL.rel ρ2 false o := by
  obtain ⟨xs, c, fr, el, m, b, ho, hel, hd, hb, hp, hn, ht, hr, hf⟩ := g
  refine ⟨xs, c, fr, el, m, b, ho, hel, ?_, ?_, hp, ?_, ht, trivial, hf⟩
  · simp only [AT.den, IT.den, h 35 (by omega)]; exact hd
  · simp only [IT.den, h 62 (by omega)]; exact hb
  · simp only [IT.den, h 36 (by omega)]; exact hn
theorem bO_rel {ρ ρ2 : Env} {o : Obj} (h : ∀ i, 30 ≤ i → ρ2.I i = ρ.I i) (g : bO.rel ρ false o) : bO.rel ρ2 false o := by
  obtain ⟨xs, c, fr, el, m, b, ho, hel, hd, hb, hp, hn, ht, hr, hf⟩ := g
  refine ⟨xs, c, fr, el, m, b, ho, hel, ?_, ?_, hp, ?_, ht, trivial, hf⟩
  · simp only [AT.den, IT.den, h 37 (by omega)]; exact hd
  · simp only [IT.den, h 64 (by omega)]; exact hb
  · simp only [IT.den, h 38 (by omega)]; exact hn
section
variable {β : Base} {ρ : Env} {H : Heap} {nl : Nat} {w : World} {d : Dt} {I' : List (Nat × Int)} {N' : List (Nat × Nat)}
theorem up_I (hI : (I'.all fun p => Nat.blt p.1 30) = true) {i : Nat} (hi : 30 ≤ i) : (ρ.up I' N').I i = ρ.I i := by
  show (lk I' i).getD (ρ.I i) = _
  rw [lk_big hI hi]; rfl
theorem up_N (hN : (N'.all fun p => Nat.ble 2 p.1) = true) {i : Nat} (hi : i < 2) : (ρ.up I' N').N i = ρ.N i := by
  show (lk N' i).or (ρ.N i) = _
  rw [lk_small hN hi]; rfl
theorem up_G (hI : (I'.all fun p => Nat.blt p.1 30) = true) (h : (Gd d).at ρ) : (Gd d).at (ρ.up I' N') := by
  refine ⟨fun p hp => ?_, h.2⟩
  have h30 := pins30 d p hp
  rw [up_I hI h30]; exact h.1 p hp
theorem mem_EE {k z : Kd} {p : Nat × ABlk} (h : p ∈ EE k z) : p = (0, bL) ∨ p = (1, bO) := by
  unfold EE EL EO at h
  rcases List.mem_append.1 h with h | h
  · cases k <;> simp only [Kd.blk, List.not_mem_nil, List.mem_singleton] at h
    exact .inl h
  · cases z <;> simp only [Kd.blk, List.not_mem_nil, List.mem_singleton] at h
    exact .inr h
theorem reEnv (hh : HRel β ρ H nl w) (hn : nl ≤ 500) (hG : β.G = Gd d) {E : List (Nat × ABlk)} (hE : hasE E H = true) (hm : ∀ p ∈ E, p = (0, bL) ∨ p = (1, bO)) (hI : (I'.all fun p => Nat.blt p.1 30) = true) (hN : (N'.all fun p => Nat.ble 2 p.1) = true) (hN2 : (N'.all fun p => Nat.blt p.1 500) = true)
    {X : List (Nat × ABlk)} (hX : ∀ p ∈ X, ∃ b o, (ρ.up I' N').N p.1 = some b ∧ w.heap[b]? = some o ∧ p.2.rel (ρ.up I' N') false o) (hnb : ((E ++ X).all fun p => p.2.nb) = true) : HRel ⟨w, [], Gd d⟩ (ρ.up I' N') (ofP (roH (E ++ X))) 500 w :=
  HRel.ro (E ++ X) (fun p hp => by
    rcases List.mem_append.1 hp with hp | hp
    · have h1 := List.all_eq_true.1 hE p hp
      split at h1
      · rename_i k hk
        obtain ⟨b, o, hb, ho, hr⟩ := hh.blk _ _ hk
        rw [ABlk.beq_eq h1] at hr
        have h30 : ∀ i, 30 ≤ i → (ρ.up I' N').I i = ρ.I i := fun i hi => up_I hI hi
        rcases hm p hp with rfl | rfl
        · exact ⟨b, o, by rw [up_N hN (by decide)]; exact hb, ho, bL_rel h30 (rel_ro hr)⟩
        · exact ⟨b, o, by rw [up_N hN (by decide)]; exact hb, ho, bO_rel h30 (rel_ro hr)⟩
      · cases h1
    · exact hX p hp) (fun i hi => by
      show (lk N' i).or (ρ.N i) = none
      rw [lk_big hN2 hi]; exact hh.fresh i (by omega)) (by
      have := hh.g
      rw [hG] at this
      exact up_G hI this) hnb
end
-- HAS
def S1 (t : IT) : AVal := .slice 1 (.var 64) t (.var 65)
def THas : Tpl := ⟨[(0, S1 (.var 20)), (1, iV 21), (7, S1 (.var 20)), (8, iV 20), (9, iV 9)], 17, roH (EO .row), 500, [(.cmp .geq (.var 9) (.lit 0), true), (.cmp .leq (.var 9) (.var 20), true), (.cmp .leq (.var 20) (.var 38), true)] ++ csO .row, 3⟩
def at9 : IT := .var 9
def up9 : IT := .bin .add .i64 (.var 9) (.lit 1)
def sgHas (t : IT) : Sub := ⟨[(20, .var 20), (21, .var 21), (9, t)], [], [], [], [(1, 1)]⟩
def cHas : Cs := [(.cmp .geq (.var 20) (.lit 0), true), (.cmp .leq (.var 20) (.var 38), true)] ++ csO .row
def fHas (b : Bool) : Cs := [(.cmp .lss at9 (.var 20), true), (.cmp .lss at9 (.var 38), true), (.cmp .eql (oT at9) (.var 21), b)]
theorem has_in : RC (spL []) 23 Try.f23 [THas] [S1 (.var 20), iV 21] (ofP (roH (EO .row))) cHas [.next 0 (.code (.loop (lb Try.f23 0)) :: lq Try.f23 0) [] (sgHas (.lit 0))] := by unfold RC; kernel_rfl
theorem has_go : RH (spL []) 23 Try.f23 0 [THas] THas (fHas false) [.next 0 (.inLoop (lb Try.f23 0) :: lq Try.f23 0) [] (sgHas up9)] := by unfold RH; kernel_rfl
theorem has_yes : RH (spL []) 23 Try.f23 0 [THas] THas (fHas true) [.ret (.bool (.lit true)) []] := by unfold RH; kernel_rfl
theorem has_no : RH (spL []) 23 Try.f23 0 [THas] THas [(.cmp .lss at9 (.var 20), false)] [.ret (.bool (.lit false)) []] := by unfold RH; kernel_rfl
end Lt
end Go.Proofs.Ytpgonpjakllnjaa
end

/-
  LinearTells (3): the reference's Has, as the machine takes it; IndexFunc and ContainsFunc over an order.
-/
section
namespace Go.Proofs.Ytpgonpjakllnjaa
open Go.Vm Go.Vm.Md Lm
namespace Lt

structure JHas (d : Dt) (t : Nat) (k : Int) (i : Nat) (ρ : Env) : Prop where
  i9 : ρ.I 9 = (i : Int)
  le : i ≤ t
  i20 : ρ.I 20 = (t : Int)
  i21 : ρ.I 21 = k
  no : anyT (fun j => decide (d.o j = k)) i = false
theorem JHas.of_le {d : Dt} {t : Nat} {k : Int} {i : Nat} {ρ ρ' : Env} (h : JHas d t k i ρ) (g : ρ.Le ρ') : JHas d t k i ρ' := ⟨by rw [g.i]; exact h.i9, h.le, by rw [g.i]; exact h.i20, by rw [g.i]; exact h.i21, h.no⟩
theorem JHas.cs {d : Dt} (ok : DOk d) (hk : d.ko = .row) {t : Nat} {k : Int} {i : Nat} {ρ : Env} (ht : t ≤ d.m) (h : JHas d t k i ρ) (hG : (Gd d).at ρ) : CRel ρ THas.cs := by
  have := h.le
  have g := dcO ok hG
  rw [hk] at g
  exact CRel_app.2 ⟨c1 (geqT (varD h.i9) (litD 0) (by omega)) (c1 (leqT (varD h.i9) (varD h.i20) (by omega)) (c1 (leqT (varD h.i20) (pM hG) (by omega)) c0)), g⟩
theorem has23 {d : Dt} (ok : DOk d) (hk : d.ko = .row) {ρ : Env} {w : World} {xs : List Value} {t : Nat} {k : Int} (hr : HRel ⟨w, [], Gd d⟩ ρ (ofP (roH (EO .row))) 500 w) (h20 : ρ.I 20 = (t : Int)) (h21 : ρ.I 21 = k) (ht : t ≤ d.m) (hx : AVal.denL ρ [S1 (.var 20), iV 21] = some xs) :
    Calls Try.prog 23 xs.toArray w fun e w' => e = .returned (.bool (d.hasN t k)) ∧ Framed w w' := by
  have hm := ok.m60
  have loop := scan (β := ⟨w, [], Gd d⟩) (sp := spL []) (f := 23) (fn := Try.f23) (j := 0) (T := THas) (Ts := [THas]) (noSp0 _) rfl (Q := fun v => v = .bool (d.hasN t k)) (fun ρ => ∃ i, JHas d t k i ρ) (fun ρ => ((t : Int) - ρ.I 9).toNat) fun ρ ⟨i, j⟩ hG hcs _ ih => by
    have hi := j.le
    by_cases hlt : i < t
    · have e9 : at9.den ρ = some (i : Int) := varD j.i9
      have f : ∀ b : Bool, decide (d.o i = k) = b → CRel ρ (fHas b) := fun b hb => c1 (lssT e9 (varD j.i20) (by omega)) (c1 (lssT e9 (pM hG) (by omega)) (c1 (by
        rw [cmpD (oT_den hG e9) (varD j.i21)]
        show some (d.o i == k) = some b
        rw [← hb]; rfl) c0))
      cases hb : decide (d.o i = k) with
      | true =>
        refine ⟨_, _, f true hb, has_yes, one (retS (z := .bool true) (fun _ _ => rfl) ?_)⟩
        rw [show d.hasN t k = true from anyT_true hlt hb]
      | false =>
        refine ⟨_, _, f false hb, has_go, one (nextS rfl fun ρ' hle hG' => ?_)⟩
        have j' := j.of_le hle
        have jn : JHas d t k (i + 1) ((sgHas up9).app ρ') := ⟨sbI (t := up9) rfl (upD (varD j'.i9) (by omega)), hlt, j'.i20, j'.i21, anyT_step j'.no hb⟩
        have hGn : (Gd d).at ((sgHas up9).app ρ') := gKeep rfl hG'
        exact ⟨hGn, jn.cs ok hk ht hGn, fun a w' r => ih _ (by rw [jn.i9, j.i9]; omega) ⟨_, jn⟩ _ a w' (.inl rfl) r⟩
    · obtain rfl : i = t := by omega
      refine ⟨_, _, c1 (lssF (varD j.i9) (varD j.i20) (by omega)) c0, has_no, one (retS (z := .bool false) (fun _ _ => rfl) ?_)⟩
      rw [show d.hasN i k = false from j.no]
  have g := dcO ok hr.g
  rw [hk] at g
  have hc : CRel ρ cHas := CRel_app.2 ⟨c1 (geqT (varD h20) (litD 0) (by omega)) (c1 (leqT (varD h20) (pM hr.g) (by omega)) c0), g⟩
  refine toE (callS (noSp0 _) rfl Try.func23 rfl has_in hx hr hc (one (nextS rfl fun ρ' hle hG' => ?_)))
  have jn : JHas d t k 0 ((sgHas (.lit 0)).app ρ') := ⟨sbI (t := .lit 0) rfl rfl, by omega, by show ρ'.I 20 = _; rw [hle.i]; exact h20, by show ρ'.I 21 = _; rw [hle.i]; exact h21, rfl⟩
  have hGn : (Gd d).at ((sgHas (.lit 0)).app ρ') := gKeep rfl hG'
  exact ⟨hGn, jn.cs ok hk ht hGn, fun a w' r => loop _ ⟨0, jn⟩ _ a w' (.inr rfl) r⟩
/-- Such a beginning of the order. -/
def begB (t : IT) (cs : Cs) : Bool := IT.beq t (.var 38) || (match lookB cs (.cmp .leq t (.var 38)) with
  | some b => b
  | none => false)
theorem begB_ok {d : Dt} {ρ : Env} {t : IT} {cs : Cs} {n : Nat} (h : begB t cs = true) (hc : CRel ρ cs) (hG : (Gd d).at ρ) (ht : t.den ρ = some (n : Int)) : n ≤ d.m := by
  unfold begB at h
  rcases Bool.or_eq_true _ _ ▸ h with h | h
  · rw [IT.beq_eq h, pM hG] at ht
    have := Option.some.inj ht; omega
  · split at h
    · rename_i b hb
      subst h
      have := lookB_ok hb hc
      rw [cmpD ht (pM hG)] at this
      simp only [intCmp, Option.some.injEq, decide_eq_true_eq] at this
      omega
    · cases h
def spHas : SpG := fun args H nl cs => match args with
  | [.slice 1 (.var 64) t (.var 65), .int .i64 u] => cond (hasE (EO .row) H && (Nat.ble nl 500 && begB t cs)) (some [.ret (.bool (.cmp .eql (.fn 49 t u) (.lit 1))) H nl cs]) none
  | _ => none
theorem ofBool1 {ρ : Env} {t : IT} {b : Bool} (h : t.den ρ = some (if b = true then 1 else 0)) : (AVal.bool (.cmp .eql t (.lit 1))).den ρ = some (.bool b) := by
  simp only [AVal.den, BT.den, h, IT.den, intCmp, Option.map_some]
  cases b <;> rfl
theorem beg_args {ρ ρ2 : Env} {t t2 : IT} (h1 : ρ2.N 1 = ρ.N 1) (h64 : ρ2.I 64 = ρ.I 64) (h65 : ρ2.I 65 = ρ.I 65) (ht : t2.den ρ2 = t.den ρ) : (S1 t2).den ρ2 = (S1 t).den ρ := by
  simp only [S1, AVal.den, IT.den, h1, h64, h65, ht]
theorem spHas_ok {d : Dt} (ok : DOk d) (hk : d.ko = .row) {β : Base} (hβ : β.G = Gd d) : SpGOk Try.prog β 23 spHas := by
  intro args H nl cs ls ρ w xs hr hx hh hc
  unfold spHas at hr
  split at hr
  rotate_left
  · cases hr
  rename_i t u
  cases hb : (hasE (EO .row) H && (Nat.ble nl 500 && begB t cs)) with
  | false => rw [hb] at hr; cases hr
  | true =>
    rw [hb] at hr; simp only [cond_true, Option.some.injEq] at hr
    subst hr
    simp only [Bool.and_eq_true] at hb
    obtain ⟨h1, h2, h3⟩ := hb
    have hG : (Gd d).at ρ := by have := hh.g; rw [hβ] at this; exact this
    have hx : AVal.denL ρ [S1 t, .int .i64 u] = some xs := hx
    cases hs : (S1 t).den ρ with
    | none => simp only [AVal.denL, hs] at hx; cases hx
    | some sv =>
    cases hu : u.den ρ with
    | none => simp only [AVal.denL, hs, AVal.den, hu, Option.map_none] at hx; cases hx
    | some k =>
      obtain ⟨b, o, n, cap, rfl, e1, e2, e3, e4⟩ := den_slice (show (AVal.slice 1 (.var 64) t (.var 65)).den ρ = some sv from hs)
      have hn := begB_ok h3 hc hG e3
      have hr2 := reEnv (I' := [(20, (n : Int)), (21, k)]) (N' := []) hh (Nat.le_of_ble_eq_true h2) hβ h1 (fun p hp => .inr (by simpa [EO, Kd.blk] using hp)) rfl rfl rfl (X := []) (fun p hp => by cases hp) rfl
      have hx2 : AVal.denL (ρ.up [(20, (n : Int)), (21, k)] []) [S1 (.var 20), iV 21] = some xs := by
        rw [← hx]
        simp only [AVal.denL, beg_args (ρ := ρ) (ρ2 := ρ.up [(20, (n : Int)), (21, k)] []) (t := t) (t2 := .var 20) rfl rfl rfl (by rw [e3]; rfl)]
        simp only [iV, AVal.den, hu]
        rfl
      refine spV_ok (has23 ok hk hr2 rfl rfl hn hx2) (ofBool1 ?_) hh hc
      rw [fnD e3 hu, hG.2.2.2.1]
      show some (if d.hasN ((n : Int)).toNat k = true then (1 : Int) else 0) = _
      rw [Int.toNat_natCast]; rfl
end Lt
end Go.Proofs.Ytpgonpjakllnjaa
end
