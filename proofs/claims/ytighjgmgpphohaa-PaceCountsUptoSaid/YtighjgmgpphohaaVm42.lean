/- A machine for abstract states over the model (part 41): what is read of a row of the reference's blocks. -/
import Derived.Test.YtighjgmgpphohaaVm40
import Derived.Laws.Append
section
namespace Go.Vm
open Mb
def fNb (x _ : Int) : Int := ((decL x).tail.length : Nat)
def fHb (x i : Int) : Int := (decL x).tail.getD i.toNat 0
def nbT (c : IT) : IT := .fn 93 c (.lit 0)
def GRb : GP := fun _ _ _ _ F => F 93 = fNb /\ F 94 = fHb
def hkRb (t : TypeId) (whole : Bool) : OpF := fun o ev H nl cs => match o with
 | .load t' p => cond (Nat.beq t' t) (match ev p with
  | some (.ptr r (.elem (.lit (.ofNat 0)) 2 0 it)) => match H.get r with
   | some ⟨.big 4 c, _⟩ => cond (isB (lookB cs (.cmp .geq it (.lit 0))) true && isB (lookB cs (.cmp .lss it (nbT c))) true)
    (cond whole (some [.ret (.agg [.int .u64 (.fn 94 c it), .slice nl (.nv (nl + 1)) (.nv (nl + 2)) (.nv (nl + 3))]) H (nl + 4) ((.cmp .geq (.nv (nl + 2)) (.lit 0), true) :: cs)])
     (some [.ret (.int .u64 (.fn 94 c it)) H nl cs])) none
   | _ => none
  | _ => none) none
 | _ => none
theorem cellsB_at : ∀ {ps : Rb} {i : Nat} {p : Int × (Nat × Nat × Nat × Nat)}, ps[i]? = some p -> (cellsB ps)[i * 2]? = some (.int .u64 p.1) /\ (cellsB ps)[i * 2 + 1]? = some (.slice (some ⟨p.2.1, p.2.2.1, none⟩) p.2.2.2.1 p.2.2.2.2)
 | q :: r, 0, p, h => by
  simp only [List.getElem?_cons_zero, Option.some.injEq] at h
  subst h
  exact ⟨rfl, rfl⟩
 | q :: r, i + 1, p, h => by
  simp only [List.getElem?_cons_succ] at h
  have := cellsB_at h
  have e : ∀ k, (cellsB (q :: r))[k + 2]? = (cellsB r)[k]? := fun k => rfl
  rw [show (i + 1) * 2 = i * 2 + 2 by omega, e, show i * 2 + 2 + 1 = (i * 2 + 1) + 2 by omega, e]
  exact this
theorem Mb.RefIn.cell {ps : Rb} {cap : Nat} {w : World} {b : Nat} {F : Nat -> Prop} (h : RefIn ps cap w b F) {i : Nat} {p : Int × (Nat × Nat × Nat × Nat)} (hp : ps[i]? = some p) :
 ∃ cur fr, w.heap[b]? = some (.cells cur 112 fr) /\ cur[i * 2]? = some (.int .u64 p.1) /\ cur[i * 2 + 1]? = some (.slice (some ⟨p.2.1, p.2.2.1, none⟩) p.2.2.2.1 p.2.2.2.2) /\ i * 2 + 2 <= cur.size := by
 obtain ⟨cur, fr, h1, _, h2, h4, h5⟩ := h.ex
 have hi : i < ps.length := (List.getElem?_eq_some_iff.1 hp).1
 obtain ⟨c1, c2⟩ := cellsB_at hp
 have get : ∀ j, j < ps.length * 2 -> cur[j]? = (cellsB ps)[j]? := fun j hj => by
  rw [<- h5, List.getElem?_take, if_pos hj, Array.getElem?_toList]
 exact ⟨cur, fr, h1, by rw [get _ (by omega)]; exact c1, by rw [get _ (by omega)]; exact c2, by omega⟩
theorem take2 {l : List Value} {j : Nat} {a b : Value} (h1 : l[j]? = some a) (h2 : l[j + 1]? = some b) : (l.drop j).take 2 = [a, b] := by
 apply List.ext_getElem?
 intro i
 rw [List.getElem?_take, List.getElem?_drop]
 match i with
 | 0 => simpa using h1
 | 1 => simpa using h2
 | i + 2 =>
  rw [if_neg (by omega)]
  rfl
section
variable {P : Program} {β : Base} {t e : TypeId}
theorem rb_at (hG : ∀ I B S V F, β.G I B S V F -> GRb I B S V F) {ρ : Env} {H : Heap} {nl : Nat} {w : World} (hh : HRel β ρ H nl w) {cs : Cs} (hc : CRel ρ cs) {r : Nat} {c it : IT} {rw : Bool} (hl : H.get r = some ⟨.big 4 c, rw⟩)
 (q1 : isB (lookB cs (.cmp .geq it (.lit 0))) true = true) (q2 : isB (lookB cs (.cmp .lss it (nbT c))) true = true) {pv : Value} (hp : (AVal.ptr r (.elem (.lit (.ofNat 0)) 2 0 it)).den ρ = some pv) :
 ∃ (b j : Nat) (p : Int × (Nat × Nat × Nat × Nat)) (cur : Array Value) (fr : Nat × Nat), pv = .pointer (some ⟨b, j * 2, none⟩) /\ w.heap[b]? = some (.cells cur 112 fr) /\ cur[j * 2]? = some (.int .u64 p.1) /\ cur[j * 2 + 1]? = some (.slice (some ⟨p.2.1, p.2.2.1, none⟩) p.2.2.2.1 p.2.2.2.2) /\ j * 2 + 2 <= cur.size /\ (IT.fn 94 c it).den ρ = some p.1 := by
 obtain ⟨b, x, F, hN, hcx, hfam, _⟩ := hh.bigAt hl
 obtain ⟨ps, cap, rfl, hR⟩ := fam4_inv hfam
 obtain ⟨g93, g94⟩ := hG _ _ _ _ _ hh.g
 obtain ⟨iz, hiz⟩ : ∃ iz, it.den ρ = some iz := by
  cases hq : it.den ρ with
  | some iz => exact ⟨iz, rfl⟩
  | none =>
   have h1 := isB_ok q1 hc
   simp only [BT.den, hq] at h1
   cases h1
 have h1 := isB_ok q1 hc
 have h2 := isB_ok q2 hc
 have dn : (nbT c).den ρ = some ((ps.length : Nat) : Int) := by
  rw [nbT, fnD hcx (litD 0), g93]
  simp [fNb, decL_encL]
 rw [cmpD hiz (litD 0)] at h1
 rw [cmpD hiz dn] at h2
 simp only [intCmp, Option.some.injEq, decide_eq_true_eq] at h1 h2
 obtain ⟨j, rfl⟩ : ∃ j : Nat, iz = (j : Int) := ⟨iz.toNat, by omega⟩
 obtain ⟨p, hpj⟩ : ∃ p, ps[j]? = some p := ⟨_, List.getElem?_eq_getElem (by omega)⟩
 obtain ⟨cur, fr, k1, k2, k3, k4⟩ := hR.cell hpj
 have h3 := den_ptr_elem (ρ := ρ) (sz := 2) (j := 0) hN (show (IT.lit (.ofNat 0)).den ρ = some 0 from rfl) hiz
 have h4 := Option.some.inj (hp.symm.trans h3)
 refine ⟨b, j, p, cur, fr, by rw [h4]; simp, k1, k2, k3, k4, ?_⟩
 rw [fnD hcx hiz, g94]
 simp [fHb, decL_encL, hpj]
theorem hkRbH_ok {k : IntKind} (hu : P.underlying t = some (.int k)) (hG : ∀ I B S V F, β.G I B S V F -> GRb I B S V F) : HookOk P β (hkRb t false) := by
 intro o ev H nl cs ls ρ w f h he hh hc _
 unfold hkRb at h
 split at h
 rotate_left
 · cases h
 rename_i t' p ho
 cases hb : Nat.beq t' t with
 | false => rw [hb] at h; cases h
 | true =>
  rw [hb] at h; simp only [cond_true] at h
  obtain rfl := Nat.eq_of_beq_eq_true hb
  split at h
  rotate_left
  · cases h
  rename_i r it hp
  split at h
  rotate_left
  · cases h
  rename_i c rw0 hl
  cases hv : (isB (lookB cs (.cmp .geq it (.lit 0))) true && isB (lookB cs (.cmp .lss it (nbT c))) true) with
  | false => rw [hv] at h; cases h
  | true =>
   rw [hv] at h; simp only [cond_true, cond_false, Option.some.injEq] at h
   subst h
   simp only [Bool.and_eq_true] at hv
   obtain ⟨b, j, p1, cur, fr, hfp, k1, k2, _, _, k5⟩ := rb_at hG hh hc hl hv.1 hv.2 (he p _ hp)
   have hcell : w.cell? ⟨b, j * 2, none⟩ = some (.int .u64 p1.1) := by rw [cell_of w k1]; exact k2
   have hrun : (Instr.loadAt t' (f p)).run P w = .ok (.int .u64 p1.1) w := by
    rw [hfp]
    have hag : aggB (.int k) = false := rfl
    simp [Instr.loadAt, Instr.sureAddr, loadVar, run_isAgg hu, hag, hcell]
   exact ⟨.int .u64 p1.1, w, .inl (by simp [execOp, ho, hrun]), _, _, _, _, ρ, List.mem_cons_self, Env.Le.refl ρ, by simp only [AVal.den, k5, Option.map_some], hh, hc⟩
theorem hkRbE_ok {fs : Array Field} (hu : P.underlying t = some (.struct fs)) (hs : (P.info? t).map (·.size) = some 2) (hG : ∀ I B S V F, β.G I B S V F -> GRb I B S V F) : HookOk P β (hkRb t true) := by
 intro o ev H nl cs ls ρ w f h he hh hc _
 unfold hkRb at h
 split at h
 rotate_left
 · cases h
 rename_i t' p ho
 cases hb : Nat.beq t' t with
 | false => rw [hb] at h; cases h
 | true =>
  rw [hb] at h; simp only [cond_true] at h
  obtain rfl := Nat.eq_of_beq_eq_true hb
  split at h
  rotate_left
  · cases h
  rename_i r it hp
  split at h
  rotate_left
  · cases h
  rename_i c rw0 hl
  cases hv : (isB (lookB cs (.cmp .geq it (.lit 0))) true && isB (lookB cs (.cmp .lss it (nbT c))) true) with
  | false => rw [hv] at h; cases h
  | true =>
   rw [hv] at h; simp only [cond_true, Option.some.injEq] at h
   subst h
   simp only [Bool.and_eq_true] at hv
   obtain ⟨b, j, p1, cur, fr, hfp, k1, k2, k3, k4, k5⟩ := rb_at hG hh hc hl hv.1 hv.2 (he p _ hp)
   obtain ⟨i, hi1, hi2⟩ := Option.map_eq_some_iff.1 hs
   have hrun : (Instr.loadAt t' (f p)).run P w = .ok (.agg #[.int .u64 p1.1, .slice (some ⟨p1.2.1, p1.2.2.1, none⟩) p1.2.2.2.1 p1.2.2.2.2]) w := by
    rw [hfp]
    have hag : aggB (.struct fs) = true := rfl
    have e2 := take2 (l := cur.toList) (j := j * 2) (by rw [Array.getElem?_toList]; exact k2) (by rw [Array.getElem?_toList]; exact k3)
    simp [Instr.loadAt, Instr.sureAddr, loadVar, run_isAgg hu, hag, run_size hi1, hi2, loadCells_run k1 (show j * 2 + 2 <= cur.size by omega), e2]
   have q1 := hh.num p1.2.1
   have q2 := q1.num p1.2.2.1
   have q3 := q2.num p1.2.2.2.1
   have q4 := q3.num p1.2.2.2.2
   have l1 := Env.le_put (b := p1.2.1) (hh.fresh nl (Nat.le_refl _))
   have l2 := Env.le_put (b := p1.2.2.1) (q1.fresh (nl + 1) (Nat.le_refl _))
   have l3 := Env.le_put (b := p1.2.2.2.1) (q2.fresh (nl + 2) (Nat.le_refl _))
   have l4 := Env.le_put (b := p1.2.2.2.2) (q3.fresh (nl + 3) (Nat.le_refl _))
   have hle := ((l1.trans l2).trans l3).trans l4
   have n0 := l4.n _ _ (l3.n _ _ (l2.n _ _ (Env.put_same ρ nl p1.2.1)))
   have n1 := l4.n _ _ (l3.n _ _ (Env.put_same (ρ.put nl p1.2.1) (nl + 1) p1.2.2.1))
   have n2 := l4.n _ _ (Env.put_same ((ρ.put nl p1.2.1).put (nl + 1) p1.2.2.1) (nl + 2) p1.2.2.2.1)
   have n3 := Env.put_same (((ρ.put nl p1.2.1).put (nl + 1) p1.2.2.1).put (nl + 2) p1.2.2.2.1) (nl + 3) p1.2.2.2.2
   have k6 := IT.den_mono hle k5
   refine ⟨.agg #[.int .u64 p1.1, .slice (some ⟨p1.2.1, p1.2.2.1, none⟩) p1.2.2.2.1 p1.2.2.2.2], w, .inl (by simp [execOp, ho, hrun]), _, _, _, _, _, List.mem_cons_self, hle, ?_, q4, c1 (geqT (nvD n2) (litD 0) (Int.natCast_nonneg _)) (hc.mono hle)⟩
   have d3 := den_slice_of n0 (nvD n1) (nvD n2) (nvD n3)
   simp only [AVal.den, AVal.denL, k6, Option.map_some] at d3 ⊢
   rw [d3]; rfl
end
end Go.Vm
end
section
namespace Go.Vm
open Mb
def capT (c : IT) : IT := .un 0 c (.lit 0)
def ubOf (cs : Cs) : IT -> Option Nat
 | .lit (.ofNat n) => some n
 | t => match cs with
  | [] => none
  | (.cmp .leq u (.lit (.ofNat n)), true) :: r => cond (IT.beq u t) (some n) (ubOf r t)
  | _ :: r => ubOf r t
theorem ubOf_ok : ∀ {cs : Cs} {t : IT} {n : Nat} {ρ : Env} {z : Int}, ubOf cs t = some n -> CRel ρ cs -> t.den ρ = some z -> z <= n := by
 intro cs
 induction cs with
 | nil =>
  intro t n ρ z h _ hz
  unfold ubOf at h
  split at h
  · cases h; cases hz; exact Int.le_refl _
  · cases h
 | cons p r ih =>
  intro t n ρ z h hc hz
  have hr : CRel ρ r := fun q hq => hc q (List.mem_cons_of_mem _ hq)
  unfold ubOf at h
  split at h
  · cases h; cases hz; exact Int.le_refl _
  · split at h
    · cases h
    · rename_i u m r' e
      cases e
      cases hb : IT.beq u t with
      | false => rw [hb] at h; exact ih h hr hz
      | true =>
       rw [hb] at h; cases h
       obtain rfl := IT.beq_eq hb
       have h1 : (BT.cmp .leq u (.lit (n : Int))).den ρ = some true := hc _ List.mem_cons_self
       rw [cmpD hz (litD (n : Int))] at h1
       simpa [intCmp] using h1
    · rename_i e
      cases e
      exact ih h hr hz
section
variable {β : Base} {ρ : Env} {H : Heap} {nl : Nat} {w : World}
theorem Tr.get_setN_same {α : Type} : ∀ (n k : Nat) (v : α) (t : Tr α), k < n -> (Tr.setN n k (some v) t).get k = some v := by
 intro n
 induction n with
 | zero => intro k v t h; omega
 | succ n ih =>
  intro k v t h
  by_cases hk : k = 0
  · subst hk; rw [Tr.setN_zero, Tr.get_zero]; rfl
  · by_cases k2 : k % 2 = 1
    · rw [Tr.setN_odd _ _ _ _ k2, Tr.get_odd _ _ k2]; exact ih _ _ _ (by omega)
    · rw [Tr.setN_even _ _ _ _ hk k2, Tr.get_even _ _ hk k2]; exact ih _ _ _ (by omega)
theorem Tr.get_setN_other {α : Type} : ∀ (n k : Nat) (o : Option α) (t : Tr α) (j : Nat) (x : α), j ≠ k -> t.get j = some x -> k < n -> (Tr.setN n k o t).get j = some x := by
 intro n
 induction n with
 | zero => intro k o t j x _ _ h; omega
 | succ n ih =>
  intro k o t j x hne hx h
  by_cases hk : k = 0
  · subst hk
    rw [Tr.setN_zero]
    by_cases h2 : j % 2 = 1
    · rw [Tr.get_odd _ _ h2] at hx ⊢; exact hx
    · rw [Tr.get_even _ _ hne h2] at hx ⊢; exact hx
  · by_cases k2 : k % 2 = 1
    · rw [Tr.setN_odd _ _ _ _ k2]
      by_cases hj : j = 0
      · subst hj; rw [Tr.get_zero] at hx ⊢; exact hx
      · by_cases h2 : j % 2 = 1
        · rw [Tr.get_odd _ _ h2] at hx ⊢; exact ih _ _ _ _ _ (by omega) hx (by omega)
        · rw [Tr.get_even _ _ hj h2] at hx ⊢; exact hx
    · rw [Tr.setN_even _ _ _ _ hk k2]
      by_cases hj : j = 0
      · subst hj; rw [Tr.get_zero] at hx ⊢; exact hx
      · by_cases h2 : j % 2 = 1
        · rw [Tr.get_odd _ _ h2] at hx ⊢; exact hx
        · rw [Tr.get_even _ _ hj h2] at hx ⊢; exact ih _ _ _ _ _ (by omega) hx (by omega)
theorem HRel.bigAtG (h : HRel β ρ H nl w) {Fp : Nat -> Nat -> Prop} (hB : BigAt ρ H β.dom w Fp) {l k : Nat} {c : IT} {rw : Bool} (hl : H.get l = some ⟨.big k c, rw⟩) :
 ∃ b x, ρ.N l = some b /\ c.den ρ = some x /\ fam k x w b (Fp l) /\ (rw = true -> ∀ w' c' x' F' (H' : Heap), (∀ l1 k1, H'.get l1 = some k1 -> (l1 = l /\ k1 = ⟨.big k c', true⟩) ∨ (l1 ≠ l /\ H.get l1 = some k1)) -> BigStep w w' (Fp l) F' -> fam k x' w' b F' -> c'.den ρ = some x' -> HRel β ρ H' nl w') := by
 obtain ⟨b, x, hN, hx, hf, h0⟩ := hB.ok _ _ _ _ hl
 refine ⟨b, x, hN, hx, hf, fun hrw w' c' x' F' H' hs s hf' hx' => ?_⟩
 subst hrw
 have h0 := h0 rfl
 have hroot := fam_root hf
 have hlt : ∀ {l1 k1 b1}, H.get l1 = some k1 -> ρ.N l1 = some b1 -> b1 < w.heap.size := fun h1 h2 => h.lt h1 h2
 have apart1 : ∀ {l1 k1}, H.get l1 = some k1 -> l1 ≠ l -> ∀ {y}, ρ.N l1 = some y -> ¬ Fp l y := fun {_ _} h1 hne {y} hy hF => (hB.apart _ _ _ _ _ _ hl h1 (Ne.symm hne) y hF).1 hy
 refine ⟨fun l1 k1 h1 => ?_, fun l1 l2 k1 k2 h1 h2 hr he => ?_, fun l1 k1 b1 h1 hr hb1 => ?_, h.fresh, h.ownN, Nat.le_trans h.size s.size, fun y hy hn => ?_, s.tape.trans h.tape, s.os.trans h.os, s.out.trans h.out, h.g, fun l1 => if l1 = l then F' else Fp l1, ⟨fun l1 k1 c1 rw1 h1 => ?_, fun l1 l2 k1 c1 rw1 h' h1 h2 hne y hy => ?_⟩⟩
 · rcases hs _ _ h1 with ⟨rfl, rfl⟩ | ⟨hne, h1⟩
   · have := fam_lt hf' (fam_root hf')
     exact ⟨b, w'.heap[b], hN, Array.getElem?_eq_getElem this, x', hx'⟩
   · obtain ⟨b1, o, hb1, ho, hk⟩ := h.blk l1 k1 h1
     exact ⟨b1, o, hb1, by rw [s.same b1 (hlt h1 hb1) (apart1 h1 hne hb1)]; exact ho, hk⟩
 · rcases hs _ _ h1 with ⟨e1, e2⟩ | ⟨hne, g1⟩
   · rcases hs _ _ h2 with ⟨e3, e4⟩ | ⟨hne2, g2⟩
     · rw [e1, e3]
     · rw [e1]; rw [e1] at he; exact h.inj _ _ _ _ hl g2 rfl he
   · rcases hs _ _ h2 with ⟨e3, e4⟩ | ⟨hne2, g2⟩
     · rw [e3]; rw [e3] at he; exact (h.inj _ _ _ _ hl g1 rfl he.symm).symm
     · exact h.inj _ _ _ _ g1 g2 hr he
 · rcases hs _ _ h1 with ⟨rfl, rfl⟩ | ⟨hne, h1⟩
   · exact h.own _ _ b1 hl rfl hb1
   · exact h.own l1 k1 b1 h1 hr hb1
 · rw [s.same y (Nat.lt_of_lt_of_le hy h.size) (fun hF => (h0 y hF).elim (fun e => by omega) hn)]
   exact h.frame y hy hn
 · rcases hs _ _ h1 with ⟨rfl, e⟩ | ⟨hne, h1⟩
   · cases e
     simp only [if_true]
     exact ⟨b, x', hN, hx', hf', fun _ y hy => (s.sub y hy).elim (h0 y) (fun e => .inl (Nat.le_trans h.size e))⟩
   · simp only [if_neg hne]
     obtain ⟨b1, x1, e1, e2, e3, e4⟩ := hB.ok _ _ _ _ h1
     exact ⟨b1, x1, e1, e2, fam_local e3 fun y hy => s.same y (fam_lt e3 hy) (fun hF => (hB.apart _ _ _ _ _ _ hl h1 (Ne.symm hne) y hF).2 rfl hy), e4⟩
 · have old : ∀ {l1 k1 c1 rw1}, H.get l1 = some ⟨.big k1 c1, rw1⟩ -> ∀ {y}, Fp l1 y -> y < w.heap.size := fun {_ _ _ _} h1 {y} hy => by
    obtain ⟨_, _, _, _, e3, _⟩ := hB.ok _ _ _ _ h1
    exact fam_lt e3 hy
   rcases hs _ _ h1 with ⟨rfl, e⟩ | ⟨hne1, g1⟩
   · rcases hs _ _ h2 with ⟨e3, _⟩ | ⟨hne2, g2⟩
     · exact absurd e3.symm hne
     · simp only [if_true] at hy
       rw [if_neg hne2]
       rcases s.sub y hy with hF | hge
       · exact hB.apart _ _ _ _ _ _ hl g2 hne y hF
       · refine ⟨fun e => by have := hlt g2 e; omega, fun hnb hy2 => ?_⟩
         obtain ⟨n, c2, hk⟩ := ABlk.nb_of hnb
         obtain ⟨hk', r'⟩ := h'
         simp only at hk; subst hk
         have := old g2 hy2; omega
   · simp only [if_neg hne1] at hy
     rcases hs _ _ h2 with ⟨rfl, e⟩ | ⟨hne2, g2⟩
     · cases e
       obtain ⟨a1, a2⟩ := hB.apart _ _ _ _ _ _ g1 hl hne y hy
       refine ⟨a1, fun _ hy2 => ?_⟩
       simp only [if_true] at hy2
       rcases s.sub y hy2 with hF | hge
       · exact a2 rfl hF
       · have := old g1 hy; omega
     · rw [if_neg hne2]
       exact hB.apart _ _ _ _ _ _ g1 g2 hne y hy
theorem HRel.rename (h : HRel β ρ H nl w) {r b : Nat} {k : HB} (hr : H.get r = some k) (hN : ρ.N r = some b) (hrw : k.rw = true) {H' : Heap} (hs : ∀ l k', H'.get l = some k' -> (l = nl /\ k' = k) ∨ (l ≠ r /\ H.get l = some k')) : HRel β (ρ.put nl b) H' (nl + 1) w := by
 have hn := h.num b
 have hle : ρ.Le (ρ.put nl b) := Env.le_put (h.fresh nl (Nat.le_refl _))
 have hlt : ∀ {l k}, H.get l = some k -> l ≠ nl := fun {l k} g e => by
  obtain ⟨b1, _, hb1, _⟩ := h.blk l k g
  rw [e, h.fresh nl (Nat.le_refl _)] at hb1; cases hb1
 have hNo : ∀ {l k}, H.get l = some k -> (ρ.put nl b).N l = ρ.N l := fun g => Env.put_other ρ b (hlt g)
 have no : ∀ {l k}, H.get l = some k -> l ≠ r -> ρ.N l ≠ some b := fun g hne e => hne (h.inj r _ k _ hr g hrw (hN.trans e.symm)).symm
 obtain ⟨Fp, hB⟩ := h.big
 refine ⟨fun l k' hl => ?_, fun l l' k1 k2 hl hl' hr1 he => ?_, fun l k' b' hl hr1 hb' => ?_, hn.fresh, trivial, hn.size, hn.frame, hn.tape, hn.os, hn.out, hn.g, fun l => Fp (if l = nl then r else l), hB.move (fun l => if l = nl then r else l) (fun l k' c rw hl => ?_) (fun _ _ _ _ _ _ _ => rfl) (fun l l' k' c rw h' hl hl' hne => ?_)⟩
 · rcases hs l k' hl with ⟨rfl, rfl⟩ | ⟨_, g⟩
   · obtain ⟨b1, o, hb1, ho, hk⟩ := h.blk r _ hr
     rw [hN] at hb1; cases hb1
     exact ⟨b, o, Env.put_same .., ho, ABlk.rel_mono hle hk⟩
   · exact hn.blk l k' g
 · rcases hs l k1 hl with ⟨rfl, rfl⟩ | ⟨n1, g1⟩
   · rcases hs l' k2 hl' with ⟨rfl, rfl⟩ | ⟨n2, g2⟩
     · rfl
     · rw [Env.put_same, hNo g2] at he
       exact absurd he.symm (no g2 n2)
   · rcases hs l' k2 hl' with ⟨rfl, rfl⟩ | ⟨n2, g2⟩
     · rw [Env.put_same, hNo g1] at he
       exact absurd he (no g1 n1)
     · rw [hNo g1, hNo g2] at he
       exact h.inj l l' k1 k2 g1 g2 hr1 he
 · rcases hs l k' hl with ⟨rfl, rfl⟩ | ⟨n1, g1⟩
   · rw [Env.put_same] at hb'; cases hb'
     exact h.own r _ b hr hrw hN
   · rw [hNo g1] at hb'
     exact h.own l k' b' g1 hr1 hb'
 · rcases hs l _ hl with ⟨rfl, e⟩ | ⟨n1, g1⟩
   · simp only [if_true]
     refine ⟨c, rw, by rw [hr, e], id, (Env.put_same ..).trans hN.symm, fun _ => IT.den_mono hle⟩
   · simp only [if_neg (hlt g1)]
     exact ⟨c, rw, g1, id, hNo g1, fun _ => IT.den_mono hle⟩
 · rcases hs l _ hl with ⟨rfl, e⟩ | ⟨n1, g1⟩
   · rcases hs l' h' hl' with ⟨rfl, e'⟩ | ⟨n2, g2⟩
     · exact absurd rfl hne
     · simp only [if_true, if_neg (hlt g2)]
       rw [hNo g2]
       exact ⟨fun y hy => (hB.apart r l' _ _ _ _ (by rw [hr, e]) g2 (Ne.symm n2) y hy).1, fun _ => Ne.symm n2⟩
   · simp only [if_neg (hlt g1)]
     rcases hs l' h' hl' with ⟨rfl, rfl⟩ | ⟨n2, g2⟩
     · simp only [if_true]
       refine ⟨fun y hy => ?_, fun _ => n1⟩
       rw [Env.put_same, <- hN]
       exact (hB.apart l r _ _ _ _ g1 hr n1 y hy).1
     · simp only [if_neg (hlt g2)]
       rw [hNo g2]
       exact ⟨fun y hy => (hB.apart l l' _ _ _ _ g1 g2 hne y hy).1, fun _ => hne⟩
theorem HRel.toBig (h : HRel β ρ H nl w) {l b k : Nat} {kb : ABlk} {c : IT} {x : Int} {F : Nat -> Prop} (hl : H.get l = some ⟨kb, true⟩) (hnb : kb.nb = true) (hN : ρ.N l = some b) (hf : fam k x w b F) (hF : ∀ y, F y ↔ y = b) (hx : c.den ρ = some x) {H' : Heap} (hs : ∀ l1 k1, H'.get l1 = some k1 -> (l1 = l /\ k1 = ⟨.big k c, true⟩) ∨ (l1 ≠ l /\ H.get l1 = some k1)) : HRel β ρ H' nl w := by
 obtain ⟨Fp, hB⟩ := h.big
 have other : ∀ {l1 k1}, H.get l1 = some k1 -> l1 ≠ l -> ρ.N l1 ≠ some b := fun g hne e => hne (h.inj l _ _ _ hl g rfl (hN.trans e.symm)).symm
 refine ⟨fun l1 k1 h1 => ?_, fun l1 l2 k1 k2 h1 h2 hr he => ?_, fun l1 k1 b1 h1 hr hb1 => ?_, h.fresh, trivial, h.size, h.frame, h.tape, h.os, h.out, h.g, fun l1 => if l1 = l then F else Fp l1, ⟨fun l1 k1 c1 rw1 h1 => ?_, fun l1 l2 k1 c1 rw1 h' h1 h2 hne y hy => ?_⟩⟩
 · rcases hs _ _ h1 with ⟨rfl, rfl⟩ | ⟨hne, h1⟩
   · exact ⟨b, w.heap[b]'(fam_lt hf (fam_root hf)), hN, Array.getElem?_eq_getElem _, x, hx⟩
   · exact h.blk l1 k1 h1
 · rcases hs _ _ h1 with ⟨e1, e2⟩ | ⟨hne, g1⟩
   · rcases hs _ _ h2 with ⟨e3, e4⟩ | ⟨hne2, g2⟩
     · rw [e1, e3]
     · rw [e1]; rw [e1] at he; exact h.inj _ _ _ _ hl g2 rfl he
   · rcases hs _ _ h2 with ⟨e3, e4⟩ | ⟨hne2, g2⟩
     · rw [e3]; rw [e3] at he; exact (h.inj _ _ _ _ hl g1 rfl he.symm).symm
     · exact h.inj _ _ _ _ g1 g2 hr he
 · rcases hs _ _ h1 with ⟨rfl, rfl⟩ | ⟨hne, h1⟩
   · exact h.own _ _ b1 hl rfl hb1
   · exact h.own l1 k1 b1 h1 hr hb1
 · rcases hs _ _ h1 with ⟨rfl, e⟩ | ⟨hne, h1⟩
   · cases e
     simp only [if_true]
     exact ⟨b, x, hN, hx, hf, fun _ y hy => by rw [(hF y).1 hy]; exact h.own _ _ b hl rfl hN⟩
   · simp only [if_neg hne]
     exact hB.ok _ _ _ _ h1
 · rcases hs _ _ h1 with ⟨rfl, e⟩ | ⟨hne1, g1⟩
   · rcases hs _ _ h2 with ⟨e3, _⟩ | ⟨hne2, g2⟩
     · exact absurd e3.symm hne
     · simp only [if_true] at hy
       rw [if_neg hne2]
       obtain rfl := (hF y).1 hy
       refine ⟨other g2 hne2, fun hnb2 hy2 => ?_⟩
       obtain ⟨n, c2, hk⟩ := ABlk.nb_of hnb2
       obtain ⟨hk', r'⟩ := h'
       simp only at hk; subst hk
       exact (hB.apart _ _ _ _ _ _ g2 hl hne2 y hy2).1 hN
   · simp only [if_neg hne1] at hy
     rcases hs _ _ h2 with ⟨rfl, e⟩ | ⟨hne2, g2⟩
     · have := (hB.apart _ _ _ _ _ _ g1 hl hne1 y hy).1
       refine ⟨this, fun _ hy2 => ?_⟩
       simp only [if_true] at hy2
       rw [(hF y).1 hy2] at this
       exact this hN
     · rw [if_neg hne2]
       exact hB.apart _ _ _ _ _ _ g1 g2 hne y hy
end
end Go.Vm
end
