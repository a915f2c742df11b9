/- A machine for abstract states over the model (part 9): slicing, copy, max, min. -/
import Derived.Test.YtighjgmgpphohaaVm8
namespace Go.Vm
section
variable {P : Program} {β : Base} {ρ : Env} {H : Heap} {nl : Nat} {w : World}
def litOf : AVal -> Option Nat
 | .int _ t => litNat t
 | _ => none
theorem litOf_ok {v : AVal} {n : Nat} {x : Value} (h : litOf v = some n) (hx : v.den ρ = some x) : ∃ k, x = .int k n := by
 unfold litOf at h
 split at h
 · obtain ⟨m, rfl, hm⟩ := den_int hx
   rw [litNat_den h] at hm; cases hm
   exact ⟨_, rfl⟩
 · cases h
def optLit : Option AVal -> Nat -> Option Nat
 | none, d => some d
 | some v, _ => litOf v
theorem bound_ok {v : AVal} {n y : Nat} {x : Value} {c : BoundsCode} (h : litOf v = some n) (hx : v.den ρ = some x) (hle : n <= y) : (Instr.sliceBound x y c).run P w = .ok n w := by
 obtain ⟨k, rfl⟩ := litOf_ok h hx
 have : (n : Int) <= (y : Int) := by omega
 simp [Instr.sliceBound, asIntOf, hle]
def OptDen (ρ : Env) : Option AVal -> Option Value -> Prop
 | none, none => True
 | some v, some x => v.den ρ = some x
 | _, _ => False
theorem bounds_ok {isS : Bool} {len cap l h : Nat} {lo hi : Option AVal} {lov hiv : Option Value} (hl : optLit lo 0 = some l) (hh : optLit hi len = some h) (dl : OptDen ρ lo lov) (dh : OptDen ρ hi hiv)
 (h1 : l <= h) (h2 : h <= cap) : (Instr.sliceBounds isS len cap lov hiv none).run P w = .ok (l, h, cap) w := by
 unfold Instr.sliceBounds
 cases hi with
 | none =>
  cases hiv with
  | some x => exact dh.elim
  | none =>
   cases hh
   cases lo with
   | none =>
    cases lov with
    | some x => exact dl.elim
    | none => cases hl; simp
   | some v =>
    cases lov with
    | none => exact dl.elim
    | some x => simp [bound_ok hl dl h1]
 | some u =>
  cases hiv with
  | none => exact dh.elim
  | some y =>
   cases lo with
   | none =>
    cases lov with
    | some x => exact dl.elim
    | none => cases hl; simp [bound_ok hh dh h2]
   | some v =>
    cases lov with
    | none => exact dl.elim
    | some x => simp [bound_ok hh dh h2, bound_ok hl dl h1]
def aSlice (P : Program) (t : TypeId) (x : AVal) (lo hi : Option AVal) (H : Heap) (nl : Nat) : Option (AVal × Nat) :=
 match P.underlying t, x with
 | some .string, .str (.lit s) => match optLit lo 0, optLit hi s.length with
  | some l, some h => cond (Nat.ble l h && Nat.ble h s.length) (some (.str (.lit ((s.drop l).take (h - l))), nl)) none
  | _, _ => none
 | some (.slice e), .sliceNil => match P.info? e, optLit lo 0, optLit hi 0 with
  | some _, some l, some h => cond (Nat.ble l h && Nat.ble h 0) (some (.sliceNil, nl)) none
  | _, _, _ => none
 | some (.slice e), .slice b off len cap => match P.info? e, litNat off, litNat len, getCells H b with
  | some ei, some o, some n, some (vals, _, tl, _) => match optLit lo 0, optLit hi n with
   | some l, some h => cond (Nat.ble l h && Nat.blt 0 ei.size && Nat.ble (o + h * ei.size) vals.length)
    (match cap with
     | .lit (.ofNat c) => cond (Nat.ble h c) (some (.slice b (.lit (.ofNat (cond (Nat.beq c l) o (o + l * ei.size)))) (.lit (.ofNat (h - l))) (.lit (.ofNat (c - l))), nl)) none
     | .nv j => match tl with
      | some (i, sz) => cond (Nat.beq i j && Nat.beq sz ei.size && Nat.beq o 0)
       (cond (Nat.beq l 0) (some (.slice b off (.lit (.ofNat h)) cap, nl))
        (cond (Nat.blt l h) (some (.slice b (.lit (.ofNat (l * ei.size))) (.lit (.ofNat (h - l))) (.nsub j l), nl)) (some (.slice b (.nv nl) (.lit 0) (.nsub j l), nl + 1)))) none
      | none => none
     | .nsub j q => match tl with
      | some (i, sz) => cond (Nat.beq i j && Nat.beq sz ei.size && Nat.beq o (q * ei.size))
       (cond (Nat.beq l 0) (cond (Nat.blt 0 h) (some (.slice b off (.lit (.ofNat h)) cap, nl)) none)
        (cond (Nat.blt l h) (some (.slice b (.lit (.ofNat (o + l * ei.size))) (.lit (.ofNat (h - l))) (.nsub j (q + l)), nl)) (some (.slice b (.nv nl) (.lit 0) (.nsub j (q + l)), nl + 1)))) none
      | none => none
     | _ => none) none
   | _, _ => none
  | _, _, _, _ => none
 | some (.array n e), .ptr b off => match P.info? e, litNat off with
  | some ei, some o => match optLit lo 0, optLit hi n with
   | some l, some h => cond (Nat.ble l h && Nat.ble h n) (some (.slice b (.lit (.ofNat (cond (Nat.beq n l) o (o + l * ei.size)))) (.lit (.ofNat (h - l))) (.lit (.ofNat (n - l))), nl)) none
   | _, _ => none
  | _, _ => none
 | _, _ => none
theorem den_slice_mk {b bb : Nat} {off len cap : IT} {o n c : Nat} (hb : ρ.N b = some bb) (h1 : off.den ρ = some (Int.ofNat o)) (h2 : len.den ρ = some (Int.ofNat n)) (h3 : cap.den ρ = some (Int.ofNat c)) :
 (AVal.slice b off len cap).den ρ = some (.slice (some ⟨bb, o, none⟩) n c) := by
 have e0 : natOf (off.den ρ) = some o := by rw [h1]; rfl
 have e1 : natOf (len.den ρ) = some n := by rw [h2]; rfl
 have e2 : natOf (cap.den ρ) = some c := by rw [h3]; rfl
 simp only [AVal.den, hb, e0, e1, e2]
theorem nat_beq_eq {a b : Nat} (h : Nat.beq a b = false) : a ≠ b := fun e => by rw [e, Nat.beq_refl] at h; cases h
theorem nat_blt_lt {a b : Nat} (h : Nat.blt a b = true) : a < b := by rw [Nat.blt_eq] at h; exact h
theorem nat_blt_ge {a b : Nat} (h : Nat.blt a b = false) : b <= a := by
 rcases Nat.lt_or_ge a b with h1 | h1
 · rw [<- Nat.blt_eq] at h1; rw [h1] at h; cases h
 · exact h1
theorem aSlice_ok {t : TypeId} {x u : AVal} {lo hi : Option AVal} {xv : Value} {lov hiv : Option Value} {nl' : Nat} (h : aSlice P t x lo hi H nl = some (u, nl')) (hx : x.den ρ = some xv)
 (dl : OptDen ρ lo lov) (dh : OptDen ρ hi hiv) (hr : HRel β ρ H nl w) : VOk P β ρ w (Instr.sliceAt t xv lov hiv none) u H nl' := by
 unfold aSlice at h
 split at h
 · rename_i s hu
   split at h
   · rename_i l k hl hh
     cases hc : (Nat.ble l k && Nat.ble k s.length) with
     | false => rw [hc] at h; cases h
     | true =>
      rw [hc] at h; simp only [cond_true, Option.some.injEq, Prod.mk.injEq] at h
      obtain ⟨rfl, rfl⟩ := h
      simp only [Bool.and_eq_true] at hc
      have h1 := Nat.le_of_ble_eq_true hc.1
      have h2 := Nat.le_of_ble_eq_true hc.2
      simp only [AVal.den, ST.den, Option.some.injEq] at hx
      subst hx
      refine ⟨ρ, w, .string ⟨((s.drop l).take (k - l)).toArray⟩, Env.Le.refl ρ, ?_, rfl, hr⟩
      have hsz : (ByteArray.mk s.toArray).size = s.length := by show s.toArray.size = _; simp
      have hb := bounds_ok (P := P) (w := w) (isS := false) (len := s.length) (cap := s.length) hl hh dl dh h1 h2
      have he : (ByteArray.mk s.toArray).extract l k = ⟨((s.drop l).take (k - l)).toArray⟩ := by
       rw [Lib.extract_eq]
      simp [Instr.sliceAt, Instr.slice, run_und hu, hsz, hb, he]
   · cases h
 · rename_i e hu
   split at h
   · rename_i ei l k hei hl hh
     cases hc : (Nat.ble l k && Nat.ble k 0) with
     | false => rw [hc] at h; cases h
     | true =>
      rw [hc] at h; simp only [cond_true, Option.some.injEq, Prod.mk.injEq] at h
      obtain ⟨rfl, rfl⟩ := h
      simp only [Bool.and_eq_true] at hc
      have h1 := Nat.le_of_ble_eq_true hc.1
      have h2 := Nat.le_of_ble_eq_true hc.2
      obtain rfl := den_sliceNil hx
      have hk : k = 0 := by omega
      have hl0 : l = 0 := by omega
      subst hk; subst hl0
      have hb := bounds_ok (P := P) (w := w) (isS := true) (len := 0) (cap := 0) hl hh dl dh h1 h2
      refine ⟨ρ, w, .slice none 0 0, Env.Le.refl ρ, ?_, rfl, hr⟩
      simp only [Instr.sliceAt, Instr.slice, Sem.run_bind, run_und hu, Result.andThen_ok, hb, run_size hei, Sem.run_pure, if_true, Nat.sub_self]
   · cases h
 · rename_i e b off len cap hu
   split at h
   · rename_i ei o n vals e' tl rw hei ho hn hc
     split at h
     · rename_i l k hl hh
       cases hcd : (Nat.ble l k && Nat.blt 0 ei.size && Nat.ble (o + k * ei.size) vals.length) with
       | false => rw [hcd] at h; cases h
       | true =>
        rw [hcd] at h; simp only [cond_true] at h
        simp only [Bool.and_eq_true] at hcd
        have h1 := Nat.le_of_ble_eq_true hcd.1.1
        have h2 := nat_blt_lt hcd.1.2
        have h3 := Nat.le_of_ble_eq_true hcd.2
        obtain ⟨bb, o', n', c', rfl, hN, hoff, hlen, hcap⟩ := den_slice hx
        rw [litNat_den ho] at hoff; rw [litNat_den hn] at hlen
        obtain rfl := nat_of_some hoff
        obtain rfl := nat_of_some hlen
        obtain ⟨xs, c0, fr, hg, hxs, hp, ht, hf⟩ := hr.cells hc hN
        have hxl := AVal.denL_length hxs
        have hxc : xs.length <= c0.size := by simpa using hp.length_le
        have run : k <= c' -> (Instr.sliceAt t (.slice (some ⟨bb, o, none⟩) n c') lov hiv none).run P w = .ok (.slice (some (if c' = l then ⟨bb, o, none⟩ else ⟨bb, o + l * ei.size, none⟩)) (k - l) (c' - l)) w := by
         intro hk
         have hb := bounds_ok (P := P) (w := w) (isS := true) (len := n) (cap := c') hl hh dl dh h1 hk
         simp only [Instr.sliceAt, Instr.slice, Sem.run_bind, run_und hu, Result.andThen_ok, hb, run_size hei, Sem.run_pure]
         by_cases hcl : c' = l
         · simp [hcl]
         · simp [hcl, addr_add]
        have room : ∀ q N0, c0.size = N0 * ei.size -> o = q * ei.size -> q + k <= N0 := by
         intro q N0 e1 e2
         rcases Nat.lt_or_ge N0 (q + k) with hlt | hge
         · have := Nat.mul_lt_mul_of_pos_right hlt h2
           rw [Nat.add_mul] at this
           omega
         · exact hge
        split at h
        · rename_i c
          have hcc : c = c' := by simp only [IT.den, Option.some.injEq] at hcap; exact Int.ofNat.inj hcap
          subst hcc
          cases hk : Nat.ble k c with
          | false => rw [hk] at h; cases h
          | true =>
           rw [hk] at h; simp only [cond_true, Option.some.injEq, Prod.mk.injEq] at h
           obtain ⟨rfl, rfl⟩ := h
           refine ⟨ρ, w, _, Env.Le.refl ρ, run (Nat.le_of_ble_eq_true hk), ?_, hr⟩
           cases hcl : Nat.beq c l with
           | true =>
            have := Nat.eq_of_beq_eq_true hcl
            rw [if_pos this]
            exact den_slice_mk hN rfl rfl rfl
           | false =>
            rw [if_neg (nat_beq_eq hcl)]
            exact den_slice_mk hN rfl rfl rfl
        · rename_i j
          split at h
          · rename_i i sz
            cases hq : (Nat.beq i j && Nat.beq sz ei.size && Nat.beq o 0) with
            | false => rw [hq] at h; cases h
            | true =>
             rw [hq] at h; simp only [cond_true] at h
             simp only [Bool.and_eq_true] at hq
             have q1 := Nat.eq_of_beq_eq_true hq.1.1
             have q2 := Nat.eq_of_beq_eq_true hq.1.2
             have q3 := Nat.eq_of_beq_eq_true hq.2
             subst q1; subst q2; subst q3
             obtain ⟨t1, N0, t2, t3⟩ := ht
             have hc' : c' = N0 := by
              simp only [IT.den, t2, Option.map_some, Option.some.injEq] at hcap
              exact (Int.ofNat.inj hcap).symm
             subst hc'
             have hkc : k <= c' := by have := room 0 c' t3 (by simp); omega
             cases hl0 : Nat.beq l 0 with
             | true =>
              rw [hl0] at h; simp only [cond_true, Option.some.injEq, Prod.mk.injEq] at h
              obtain ⟨rfl, rfl⟩ := h
              have := Nat.eq_of_beq_eq_true hl0
              subst this
              refine ⟨ρ, w, _, Env.Le.refl ρ, run hkc, ?_, hr⟩
              have e1 : (if c' = 0 then (⟨bb, 0, none⟩ : Addr) else ⟨bb, 0 + 0 * ei.size, none⟩) = ⟨bb, 0, none⟩ := by split <;> simp
              rw [e1]
              exact den_slice_mk hN (litNat_den ho) rfl (by simp [hcap])
             | false =>
              rw [hl0] at h; simp only [cond_false] at h
              have hcapN : ∀ ρ', ρ.Le ρ' -> (IT.nsub i l).den ρ' = some (Int.ofNat (c' - l)) := fun ρ' hle => by simp [IT.den, hle.n _ _ t2]
              cases hlk : Nat.blt l k with
              | true =>
               rw [hlk] at h; simp only [cond_true, Option.some.injEq, Prod.mk.injEq] at h
               obtain ⟨rfl, rfl⟩ := h
               have hlk' := nat_blt_lt hlk
               refine ⟨ρ, w, _, Env.Le.refl ρ, run hkc, ?_, hr⟩
               rw [if_neg (by omega)]
               exact den_slice_mk hN (by simp [IT.den]) rfl (hcapN ρ (Env.Le.refl ρ))
              | false =>
               rw [hlk] at h; simp only [cond_false, Option.some.injEq, Prod.mk.injEq] at h
               obtain ⟨rfl, rfl⟩ := h
               have hlk' := nat_blt_ge hlk
               have hkl : k - l = 0 := by omega
               let a : Nat := if c' = l then 0 else 0 + l * ei.size
               refine ⟨ρ.put nl a, w, _, Env.le_put (hr.fresh nl (Nat.le_refl _)), run hkc, ?_, hr.num a⟩
               have e1 : (if c' = l then (⟨bb, 0, none⟩ : Addr) else ⟨bb, 0 + l * ei.size, none⟩) = ⟨bb, a, none⟩ := by simp only [a]; split <;> rfl
               rw [e1, hkl]
               exact den_slice_mk ((Env.le_put (hr.fresh nl (Nat.le_refl _))).n _ _ hN) (by simp [IT.den, Env.put_same]) rfl (hcapN _ (Env.le_put (hr.fresh nl (Nat.le_refl _))))
          · cases h
        · rename_i j q
          split at h
          · rename_i i sz
            cases hq : (Nat.beq i j && Nat.beq sz ei.size && Nat.beq o (q * ei.size)) with
            | false => rw [hq] at h; cases h
            | true =>
             rw [hq] at h; simp only [cond_true] at h
             simp only [Bool.and_eq_true] at hq
             have q1 := Nat.eq_of_beq_eq_true hq.1.1
             have q2 := Nat.eq_of_beq_eq_true hq.1.2
             have q3 := Nat.eq_of_beq_eq_true hq.2
             subst q1; subst q2
             obtain ⟨t1, N0, t2, t3⟩ := ht
             have hc' : c' = N0 - q := by
              simp only [IT.den, t2, Option.map_some, Option.some.injEq] at hcap
              exact (Int.ofNat.inj hcap).symm
             have hroom := room q N0 t3 q3
             have hkc : k <= c' := by omega
             cases hl0 : Nat.beq l 0 with
             | true =>
              rw [hl0] at h; simp only [cond_true] at h
              have := Nat.eq_of_beq_eq_true hl0
              subst this
              cases hk0 : Nat.blt 0 k with
              | false => rw [hk0] at h; cases h
              | true =>
               rw [hk0] at h; simp only [cond_true, Option.some.injEq, Prod.mk.injEq] at h
               obtain ⟨rfl, rfl⟩ := h
               have hk1 := nat_blt_lt hk0
               refine ⟨ρ, w, _, Env.Le.refl ρ, run hkc, ?_, hr⟩
               rw [if_neg (by omega)]
               exact den_slice_mk hN (by rw [litNat_den ho]; simp) rfl (by simp [hcap])
             | false =>
              rw [hl0] at h; simp only [cond_false] at h
              have hcapN : ∀ ρ', ρ.Le ρ' -> (IT.nsub i (q + l)).den ρ' = some (Int.ofNat (c' - l)) := fun ρ' hle => by simp [IT.den, hle.n _ _ t2]; omega
              cases hlk : Nat.blt l k with
              | true =>
               rw [hlk] at h; simp only [cond_true, Option.some.injEq, Prod.mk.injEq] at h
               obtain ⟨rfl, rfl⟩ := h
               have hlk' := nat_blt_lt hlk
               refine ⟨ρ, w, _, Env.Le.refl ρ, run hkc, ?_, hr⟩
               rw [if_neg (by omega)]
               exact den_slice_mk hN rfl rfl (hcapN ρ (Env.Le.refl ρ))
              | false =>
               rw [hlk] at h; simp only [cond_false, Option.some.injEq, Prod.mk.injEq] at h
               obtain ⟨rfl, rfl⟩ := h
               have hlk' := nat_blt_ge hlk
               have hkl : k - l = 0 := by omega
               let a : Nat := if c' = l then o else o + l * ei.size
               refine ⟨ρ.put nl a, w, _, Env.le_put (hr.fresh nl (Nat.le_refl _)), run hkc, ?_, hr.num a⟩
               have e1 : (if c' = l then (⟨bb, o, none⟩ : Addr) else ⟨bb, o + l * ei.size, none⟩) = ⟨bb, a, none⟩ := by simp only [a]; split <;> rfl
               rw [e1, hkl]
               exact den_slice_mk ((Env.le_put (hr.fresh nl (Nat.le_refl _))).n _ _ hN) (by simp [IT.den, Env.put_same]) rfl (hcapN _ (Env.le_put (hr.fresh nl (Nat.le_refl _))))
          · cases h
        · cases h
     · cases h
   · cases h
 · rename_i n e b off hu
   split at h
   · rename_i ei o hei ho
     split at h
     · rename_i l k hl hh
       cases hc : (Nat.ble l k && Nat.ble k n) with
       | false => rw [hc] at h; cases h
       | true =>
        rw [hc] at h; simp only [cond_true, Option.some.injEq, Prod.mk.injEq] at h
        obtain ⟨rfl, rfl⟩ := h
        simp only [Bool.and_eq_true] at hc
        have h1 := Nat.le_of_ble_eq_true hc.1
        have h2 := Nat.le_of_ble_eq_true hc.2
        obtain ⟨bb, o', rfl, hN, hoff⟩ := den_ptr hx
        rw [litNat_den ho] at hoff
        obtain rfl := nat_of_some hoff
        have hb := bounds_ok (P := P) (w := w) (isS := false) (len := n) (cap := n) hl hh dl dh h1 h2
        refine ⟨ρ, w, .slice (some (if n = l then ⟨bb, o, none⟩ else ⟨bb, o + l * ei.size, none⟩)) (k - l) (n - l), Env.Le.refl ρ, ?_, ?_, hr⟩
        · simp only [Instr.sliceAt, Instr.sureAddr, Sem.run_bind, run_und hu, Result.andThen_ok, hb, run_size hei, Sem.run_pure]
          by_cases hcl : n = l
          · simp [hcl]
          · simp [hcl, addr_add]
        · cases hcl : Nat.beq n l with
          | true =>
           rw [if_pos (Nat.eq_of_beq_eq_true hcl)]
           exact den_slice_mk hN rfl rfl rfl
          | false =>
           rw [if_neg (nat_beq_eq hcl)]
           exact den_slice_mk hN rfl rfl rfl
     · cases h
   · cases h
 · cases h
def mkMx (a b : IT) : IT :=
 match a, b with
 | .lit x, .lit y => .lit (cond (iLt x y) y x)
 | a, b => .mx a b
def mkMn (a b : IT) : IT :=
 match a, b with
 | .lit x, .lit y => .lit (cond (iLt y x) y x)
 | a, b => .mn a b
theorem mkMx_den {a b : IT} {x y : Int} (ha : a.den ρ = some x) (hb : b.den ρ = some y) : (mkMx a b).den ρ = some (if y > x then y else x) := by
 unfold mkMx
 split
 · rename_i x' y'
   obtain rfl := Option.some.inj ha
   obtain rfl := Option.some.inj hb
   simp only [IT.den, iLt_eq, Option.some.injEq]
   by_cases h : x' < y' <;> simp [h]
 · simp only [IT.den, ha, hb]
theorem mkMn_den {a b : IT} {x y : Int} (ha : a.den ρ = some x) (hb : b.den ρ = some y) : (mkMn a b).den ρ = some (if y < x then y else x) := by
 unfold mkMn
 split
 · rename_i x' y'
   obtain rfl := Option.some.inj ha
   obtain rfl := Option.some.inj hb
   simp only [IT.den, iLt_eq, Option.some.injEq]
   by_cases h : y' < x' <;> simp [h]
 · simp only [IT.den, ha, hb]
def aMax : AVal -> List AVal -> Option AVal
 | x, [] => some x
 | .int k a, .int k' b :: r => cond (decide (k = k')) (aMax (.int k (mkMx a b)) r) none
 | _, _ => none
def aMin : AVal -> List AVal -> Option AVal
 | x, [] => some x
 | .int k a, .int k' b :: r => cond (decide (k = k')) (aMin (.int k (mkMn a b)) r) none
 | _, _ => none
theorem aMax_ok : ∀ {l : List AVal} {x u : AVal} {xv : Value} {xs : List Value}, aMax x l = some u -> x.den ρ = some xv -> AVal.denL ρ l = some xs -> ∃ y, u.den ρ = some y /\ (xs.foldlM Builtin.max2 xv).run P w = .ok y w := by
 intro l
 induction l with
 | nil => intro x u xv xs h hx hl; simp only [aMax, Option.some.injEq] at h; subst h; cases hl; exact ⟨xv, hx, rfl⟩
 | cons b r ih =>
  intro x u xv xs h hx hl
  cases x <;> cases b <;> simp only [aMax] at h <;> first
   | (cases h; done)
   | skip
  rename_i k a k' b
  by_cases hk : k = k'
  · subst hk
    simp only [decide_true, cond_true] at h
    simp only [AVal.denL] at hl
    split at hl
    · rename_i y l' hy hl'
      cases hl
      obtain ⟨m, rfl, hm⟩ := den_int hx
      obtain ⟨n, rfl, hn⟩ := den_int hy
      obtain ⟨z, hz, hrun⟩ := ih (xv := .int k (if n > m then n else m)) h (by simp only [AVal.den, mkMx_den hm hn, Option.map_some]) hl'
      refine ⟨z, hz, ?_⟩
      simp only [List.foldlM_cons, Sem.run_bind, Builtin.max2, Sem.run_pure, Result.andThen_ok]
      exact hrun
    · cases hl
  · simp [hk] at h
theorem aMin_ok : ∀ {l : List AVal} {x u : AVal} {xv : Value} {xs : List Value}, aMin x l = some u -> x.den ρ = some xv -> AVal.denL ρ l = some xs -> ∃ y, u.den ρ = some y /\ (xs.foldlM Builtin.min2 xv).run P w = .ok y w := by
 intro l
 induction l with
 | nil => intro x u xv xs h hx hl; simp only [aMin, Option.some.injEq] at h; subst h; cases hl; exact ⟨xv, hx, rfl⟩
 | cons b r ih =>
  intro x u xv xs h hx hl
  cases x <;> cases b <;> simp only [aMin] at h <;> first
   | (cases h; done)
   | skip
  rename_i k a k' b
  by_cases hk : k = k'
  · subst hk
    simp only [decide_true, cond_true] at h
    simp only [AVal.denL] at hl
    split at hl
    · rename_i y l' hy hl'
      cases hl
      obtain ⟨m, rfl, hm⟩ := den_int hx
      obtain ⟨n, rfl, hn⟩ := den_int hy
      obtain ⟨z, hz, hrun⟩ := ih (xv := .int k (if n < m then n else m)) h (by simp only [AVal.den, mkMn_den hm hn, Option.map_some]) hl'
      refine ⟨z, hz, ?_⟩
      simp only [List.foldlM_cons, Sem.run_bind, Builtin.min2, Sem.run_pure, Result.andThen_ok]
      exact hrun
    · cases hl
  · simp [hk] at h
end
end Go.Vm
