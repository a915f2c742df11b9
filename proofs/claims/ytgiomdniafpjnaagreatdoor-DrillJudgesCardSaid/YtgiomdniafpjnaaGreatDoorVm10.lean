/-
  A machine for abstract states over the model (part 9): slicing, copy, max, min.
-/
import Derived.Test.YtgiomdniafpjnaaGreatDoorVm8
import Derived.Orders
section
namespace Go.Vm

section
variable {P : Program} {β : Base} {ρ : Env} {H : Heap} {nl : Nat} {w : World}

/-- A bound that is a number. -/
def litOf : AVal → Option Nat
  | .int _ t => litNat t
  | _ => none
theorem litOf_ok {v : AVal} {n : Nat} {x : Value} (h : litOf v = some n) (hx : v.den ρ = some x) : ∃ k, x = .int k n := by
  unfold litOf at h
  split at h
  · obtain ⟨m, rfl, hm⟩ := den_int hx
    rw [litNat_den h] at hm; cases hm
    exact ⟨_, rfl⟩
  · cases h
def optLit : Option AVal → Nat → Option Nat
  | none, d => some d
  | some v, _ => litOf v

theorem bound_ok {v : AVal} {n y : Nat} {x : Value} {c : BoundsCode} (h : litOf v = some n) (hx : v.den ρ = some x) (hle : n ≤ y) : (Instr.sliceBound x y c).run P w = .ok n w := by
  obtain ⟨k, rfl⟩ := litOf_ok h hx
  have : (n : Int) ≤ (y : Int) := by omega
  simp [Instr.sliceBound, asIntOf, hle]
def OptDen (ρ : Env) : Option AVal → Option Value → Prop
  | none, none => True
  | some v, some x => v.den ρ = some x
  | _, _ => False
theorem bounds_ok {isS : Bool} {len cap l h : Nat} {lo hi : Option AVal} {lov hiv : Option Value} (hl : optLit lo 0 = some l) (hh : optLit hi len = some h) (dl : OptDen ρ lo lov) (dh : OptDen ρ hi hiv)
    (h1 : l ≤ h) (h2 : h ≤ cap) : (Instr.sliceBounds isS len cap lov hiv none).run P w = .ok (l, h, cap) w := by
  unfold Instr.sliceBounds
  cases hi with
  | none =>
    cases hiv with
    | some x => exact dh.elim
    | none =>
      cases hh
      cases lo with
      | none =>
        cases lov with
        | some x => exact dl.elim
        | none => cases hl; simp
      | some v =>
        cases lov with
        | none => exact dl.elim
        | some x => simp [bound_ok hl dl h1]
  | some u =>
    cases hiv with
    | none => exact dh.elim
    | some y =>
      cases lo with
      | none =>
        cases lov with
        | some x => exact dl.elim
        | none => cases hl; simp [bound_ok hh dh h2]
      | some v =>
        cases lov with
        | none => exact dl.elim
        | some x => simp [bound_ok hh dh h2, bound_ok hl dl h1]

def aSlice (P : Program) (t : TypeId) (x : AVal) (lo hi : Option AVal) (H : Heap) (nl : Nat) : Option (AVal × Nat) :=
  match P.underlying t, x with
  | some .string, .str (.lit s) => match optLit lo 0, optLit hi s.length with
    | some l, some h => cond (Nat.ble l h && Nat.ble h s.length) (some (.str (.lit ((s.drop l).take (h - l))), nl)) none
    | _, _ => none
  | some (.slice e), .sliceNil => match P.info? e, optLit lo 0, optLit hi 0 with
    | some _, some l, some h => cond (Nat.ble l h && Nat.ble h 0) (some (.sliceNil, nl)) none
    | _, _, _ => none
  | some (.slice e), .slice b off len cap => match P.info? e, litNat off, litNat len, getCells H b with
    | some ei, some o, some n, some (vals, _, tl, _) => match optLit lo 0, optLit hi n with
      | some l, some h => cond (Nat.ble l h && Nat.blt 0 ei.size && Nat.ble (o + h * ei.size) vals.length)
        (match cap with
          | .lit (.ofNat c) => cond (Nat.ble h c) (some (.slice b (.lit (.ofNat (cond (Nat.beq c l) o (o + l * ei.size)))) (.lit (.ofNat (h - l))) (.lit (.ofNat (c - l))), nl)) none
          | .nv j => match tl with
            | some (i, sz) => cond (Nat.beq i j && Nat.beq sz ei.size && Nat.beq o 0)
                (cond (Nat.beq l 0) (some (.slice b off (.lit (.ofNat h)) cap, nl))
                  (cond (Nat.blt l h) (some (.slice b (.lit (.ofNat (l * ei.size))) (.lit (.ofNat (h - l))) (.nsub j l), nl)) (some (.slice b (.nv nl) (.lit 0) (.nsub j l), nl + 1)))) none
            | none => none
          | .nsub j q => match tl with
            | some (i, sz) => cond (Nat.beq i j && Nat.beq sz ei.size && Nat.beq o (q * ei.size))
                (cond (Nat.beq l 0) (cond (Nat.blt 0 h) (some (.slice b off (.lit (.ofNat h)) cap, nl)) none)
                  (cond (Nat.blt l h) (some (.slice b (.lit (.ofNat (o + l * ei.size))) (.lit (.ofNat (h - l))) (.nsub j (q + l)), nl)) (some (.slice b (.nv nl) (.lit 0) (.nsub j (q + l)), nl + 1)))) none
            | none => none
          | _ => none) none
      | _, _ => none
    | _, _, _, _ => none
  | some (.array n e), .ptr b off => match P.info? e, litNat off with
    | some ei, some o => match optLit lo 0, optLit hi n with
      | some l, some h => cond (Nat.ble l h && Nat.ble h n) (some (.slice b (.lit (.ofNat (cond (Nat.beq n l) o (o + l * ei.size)))) (.lit (.ofNat (h - l))) (.lit (.ofNat (n - l))), nl)) none
      | _, _ => none
    | _, _ => none
  | _, _ => none

theorem den_slice_mk {b bb : Nat} {off len cap : IT} {o n c : Nat} (hb : ρ.N b = some bb) (h1 : off.den ρ = some (Int.ofNat o)) (h2 : len.den ρ = some (Int.ofNat n)) (h3 : cap.den ρ = some (Int.ofNat c)) :
    (AVal.slice b off len cap).den ρ = some (.slice (some ⟨bb, o, none⟩) n c) := by
  have e0 : natOf (off.den ρ) = some o := by rw [h1]; rfl
  have e1 : natOf (len.den ρ) = some n := by rw [h2]; rfl
  have e2 : natOf (cap.den ρ) = some c := by rw [h3]; rfl
  simp only [AVal.den, hb, e0, e1, e2]
theorem nat_beq_eq {a b : Nat} (h : Nat.beq a b = false) : a ≠ b := fun e => by rw [e, Nat.beq_refl] at h; cases h
theorem nat_blt_lt {a b : Nat} (h : Nat.blt a b = true) : a < b := by rw [Nat.blt_eq] at h; exact h
theorem nat_blt_ge {a b : Nat} (h : Nat.blt a b = false) : b ≤ a := by
  rcases Nat.lt_or_ge a b with h1 | h1
  · rw [← Nat.blt_eq] at h1; rw [h1] at h; cases h
  · exact h1

theorem aSlice_ok {t : TypeId} {x u : AVal} {lo hi : Option AVal} {xv : Value} {lov hiv : Option Value} {nl' : Nat} (h : aSlice P t x lo hi H nl = some (u, nl')) (hx : x.den ρ = some xv)
    (dl : OptDen ρ lo lov) (dh : OptDen ρ hi hiv) (hr : HRel β ρ H nl w) : VOk P β ρ w (Instr.sliceAt t xv lov hiv none) u H nl' := by
  unfold aSlice at h
  split at h
  · rename_i s hu
    split at h
    · rename_i l k hl hh
      cases hc : (Nat.ble l k && Nat.ble k s.length) with
      | false => rw [hc] at h; cases h
      | true =>
        rw [hc] at h; simp only [cond_true, Option.some.injEq, Prod.mk.injEq] at h
        obtain ⟨rfl, rfl⟩ := h
        simp only [Bool.and_eq_true] at hc
        have h1 := Nat.le_of_ble_eq_true hc.1
        have h2 := Nat.le_of_ble_eq_true hc.2
        simp only [AVal.den, ST.den, Option.some.injEq] at hx
        subst hx
        refine ⟨ρ, w, .string ⟨((s.drop l).take (k - l)).toArray⟩, Env.Le.refl ρ, ?_, rfl, hr⟩
        have hsz : (ByteArray.mk s.toArray).size = s.length := by show s.toArray.size = _; simp
        have hb := bounds_ok (P := P) (w := w) (isS := false) (len := s.length) (cap := s.length) hl hh dl dh h1 h2
        have he : (ByteArray.mk s.toArray).extract l k = ⟨((s.drop l).take (k - l)).toArray⟩ := by
          rw [Lib.extract_eq]
        simp [Instr.sliceAt, Instr.slice, run_und hu, hsz, hb, he]
    · cases h
  · rename_i e hu
    split at h
    · rename_i ei l k hei hl hh
      cases hc : (Nat.ble l k && Nat.ble k 0) with
      | false => rw [hc] at h; cases h
      | true =>
        rw [hc] at h; simp only [cond_true, Option.some.injEq, Prod.mk.injEq] at h
        obtain ⟨rfl, rfl⟩ := h
        simp only [Bool.and_eq_true] at hc
        have h1 := Nat.le_of_ble_eq_true hc.1
        have h2 := Nat.le_of_ble_eq_true hc.2
        obtain rfl := den_sliceNil hx
        have hk : k = 0 := by omega
        have hl0 : l = 0 := by omega
        subst hk; subst hl0
        have hb := bounds_ok (P := P) (w := w) (isS := true) (len := 0) (cap := 0) hl hh dl dh h1 h2
        refine ⟨ρ, w, .slice none 0 0, Env.Le.refl ρ, ?_, rfl, hr⟩
        simp only [Instr.sliceAt, Instr.slice, Sem.run_bind, run_und hu, Result.andThen_ok, hb, run_size hei, Sem.run_pure, if_true, Nat.sub_self]
    · cases h
  · rename_i e b off len cap hu
    split at h
    · rename_i ei o n vals e' tl rw hei ho hn hc
      split at h
      · rename_i l k hl hh
        cases hcd : (Nat.ble l k && Nat.blt 0 ei.size && Nat.ble (o + k * ei.size) vals.length) with
        | false => rw [hcd] at h; cases h
        | true =>
          rw [hcd] at h; simp only [cond_true] at h
          simp only [Bool.and_eq_true] at hcd
          have h1 := Nat.le_of_ble_eq_true hcd.1.1
          have h2 := nat_blt_lt hcd.1.2
          have h3 := Nat.le_of_ble_eq_true hcd.2
          obtain ⟨bb, o', n', c', rfl, hN, hoff, hlen, hcap⟩ := den_slice hx
          rw [litNat_den ho] at hoff; rw [litNat_den hn] at hlen
          obtain rfl := nat_of_some hoff
          obtain rfl := nat_of_some hlen
          obtain ⟨xs, c0, fr, hg, hxs, hp, ht, hf⟩ := hr.cells hc hN
          have hxl := AVal.denL_length hxs
          have hxc : xs.length ≤ c0.size := by simpa using hp.length_le
          have run : k ≤ c' → (Instr.sliceAt t (.slice (some ⟨bb, o, none⟩) n c') lov hiv none).run P w = .ok (.slice (some (if c' = l then ⟨bb, o, none⟩ else ⟨bb, o + l * ei.size, none⟩)) (k - l) (c' - l)) w := by
            intro hk
            have hb := bounds_ok (P := P) (w := w) (isS := true) (len := n) (cap := c') hl hh dl dh h1 hk
            simp only [Instr.sliceAt, Instr.slice, Sem.run_bind, run_und hu, Result.andThen_ok, hb, run_size hei, Sem.run_pure]
            by_cases hcl : c' = l
            · simp [hcl]
            · simp [hcl, addr_add]
          have room : ∀ q N0, c0.size = N0 * ei.size → o = q * ei.size → q + k ≤ N0 := by
            intro q N0 e1 e2
            rcases Nat.lt_or_ge N0 (q + k) with hlt | hge
            · have := Nat.mul_lt_mul_of_pos_right hlt h2
              rw [Nat.add_mul] at this
              omega
            · exact hge
          split at h
          · rename_i c
            have hcc : c = c' := by simp only [IT.den, Option.some.injEq] at hcap; exact Int.ofNat.inj hcap
            subst hcc
            cases hk : Nat.ble k c with
            | false => rw [hk] at h; cases h
            | true =>
              rw [hk] at h; simp only [cond_true, Option.some.injEq, Prod.mk.injEq] at h
              obtain ⟨rfl, rfl⟩ := h
              refine ⟨ρ, w, _, Env.Le.refl ρ, run (Nat.le_of_ble_eq_true hk), ?_, hr⟩
              cases hcl : Nat.beq c l with
              | true =>
                have := Nat.eq_of_beq_eq_true hcl
                rw [if_pos this]
                exact den_slice_mk hN rfl rfl rfl
              | false =>
                rw [if_neg (nat_beq_eq hcl)]
                exact den_slice_mk hN rfl rfl rfl
          · rename_i j
            split at h
            · rename_i i sz
              cases hq : (Nat.beq i j && Nat.beq sz ei.size && Nat.beq o 0) with
              | false => rw [hq] at h; cases h
              | true =>
                rw [hq] at h; simp only [cond_true] at h
                simp only [Bool.and_eq_true] at hq
                have q1 := Nat.eq_of_beq_eq_true hq.1.1
                have q2 := Nat.eq_of_beq_eq_true hq.1.2
                have q3 := Nat.eq_of_beq_eq_true hq.2
                subst q1; subst q2; subst q3
                obtain ⟨t1, N0, t2, t3⟩ := ht
                have hc' : c' = N0 := by
                  simp only [IT.den, t2, Option.map_some, Option.some.injEq] at hcap
                  exact (Int.ofNat.inj hcap).symm
                subst hc'
                have hkc : k ≤ c' := by have := room 0 c' t3 (by simp); omega
                cases hl0 : Nat.beq l 0 with
                | true =>
                  rw [hl0] at h; simp only [cond_true, Option.some.injEq, Prod.mk.injEq] at h
                  obtain ⟨rfl, rfl⟩ := h
                  have := Nat.eq_of_beq_eq_true hl0
                  subst this
                  refine ⟨ρ, w, _, Env.Le.refl ρ, run hkc, ?_, hr⟩
                  have e1 : (if c' = 0 then (⟨bb, 0, none⟩ : Addr) else ⟨bb, 0 + 0 * ei.size, none⟩) = ⟨bb, 0, none⟩ := by split <;> simp
                  rw [e1]
                  exact den_slice_mk hN (litNat_den ho) rfl (by simp [hcap])
                | false =>
                  rw [hl0] at h; simp only [cond_false] at h
                  have hcapN : ∀ ρ', ρ.Le ρ' → (IT.nsub i l).den ρ' = some (Int.ofNat (c' - l)) := fun ρ' hle => by simp [IT.den, hle.n _ _ t2]
                  cases hlk : Nat.blt l k with
                  | true =>
                    rw [hlk] at h; simp only [cond_true, Option.some.injEq, Prod.mk.injEq] at h
                    obtain ⟨rfl, rfl⟩ := h
                    have hlk' := nat_blt_lt hlk
                    refine ⟨ρ, w, _, Env.Le.refl ρ, run hkc, ?_, hr⟩
                    rw [if_neg (by omega)]
                    exact den_slice_mk hN (by simp [IT.den]) rfl (hcapN ρ (Env.Le.refl ρ))
                  | false =>
                    rw [hlk] at h; simp only [cond_false, Option.some.injEq, Prod.mk.injEq] at h
                    obtain ⟨rfl, rfl⟩ := h
                    have hlk' := nat_blt_ge hlk
                    have hkl : k - l = 0 := by omega
                    let a : Nat := if c' = l then 0 else 0 + l * ei.size
                    refine ⟨ρ.put nl a, w, _, Env.le_put (hr.fresh nl (Nat.le_refl _)), run hkc, ?_, hr.num a⟩
                    have e1 : (if c' = l then (⟨bb, 0, none⟩ : Addr) else ⟨bb, 0 + l * ei.size, none⟩) = ⟨bb, a, none⟩ := by simp only [a]; split <;> rfl
                    rw [e1, hkl]
                    exact den_slice_mk ((Env.le_put (hr.fresh nl (Nat.le_refl _))).n _ _ hN) (by simp [IT.den, Env.put_same]) rfl (hcapN _ (Env.le_put (hr.fresh nl (Nat.le_refl _))))
            · cases h
          · rename_i j q
            split at h
            · rename_i i sz
              cases hq : (Nat.beq i j && Nat.beq sz ei.size && Nat.beq o (q * ei.size)) with
              | false => rw [hq] at h; cases h
              | true =>
                rw [hq] at h; simp only [cond_true] at h
                simp only [Bool.and_eq_true] at hq
                have q1 := Nat.eq_of_beq_eq_true hq.1.1
                have q2 := Nat.eq_of_beq_eq_true hq.1.2
                have q3 := Nat.eq_of_beq_eq_true hq.2
                subst q1; subst q2
                obtain ⟨t1, N0, t2, t3⟩ := ht
                have hc' : c' = N0 - q := by
                  simp only [IT.den, t2, Option.map_some, Option.some.injEq] at hcap
                  exact (Int.ofNat.inj hcap).symm
                have hroom := room q N0 t3 q3
                have hkc : k ≤ c' := by omega
                cases hl0 : Nat.beq l 0 with
                | true =>
                  rw [hl0] at h; simp only [cond_true] at h
                  have := Nat.eq_of_beq_eq_true hl0
                  subst this
                  cases hk0 : Nat.blt 0 k with
                  | false => rw [hk0] at h; cases h
                  | true =>
                    rw [hk0] at h; simp only [cond_true, Option.some.injEq, Prod.mk.injEq] at h
                    obtain ⟨rfl, rfl⟩ := h
                    have hk1 := nat_blt_lt hk0
                    refine ⟨ρ, w, _, Env.Le.refl ρ, run hkc, ?_, hr⟩
                    rw [if_neg (by omega)]
                    exact den_slice_mk hN (by rw [litNat_den ho]; simp) rfl (by simp [hcap])
                | false =>
                  rw [hl0] at h; simp only [cond_false] at h
                  have hcapN : ∀ ρ', ρ.Le ρ' → (IT.nsub i (q + l)).den ρ' = some (Int.ofNat (c' - l)) := fun ρ' hle => by simp [IT.den, hle.n _ _ t2]; omega
                  cases hlk : Nat.blt l k with
                  | true =>
                    rw [hlk] at h; simp only [cond_true, Option.some.injEq, Prod.mk.injEq] at h
                    obtain ⟨rfl, rfl⟩ := h
                    have hlk' := nat_blt_lt hlk
                    refine ⟨ρ, w, _, Env.Le.refl ρ, run hkc, ?_, hr⟩
                    rw [if_neg (by omega)]
                    exact den_slice_mk hN rfl rfl (hcapN ρ (Env.Le.refl ρ))
                  | false =>
                    rw [hlk] at h; simp only [cond_false, Option.some.injEq, Prod.mk.injEq] at h
                    obtain ⟨rfl, rfl⟩ := h
                    have hlk' := nat_blt_ge hlk
                    have hkl : k - l = 0 := by omega
                    let a : Nat := if c' = l then o else o + l * ei.size
                    refine ⟨ρ.put nl a, w, _, Env.le_put (hr.fresh nl (Nat.le_refl _)), run hkc, ?_, hr.num a⟩
                    have e1 : (if c' = l then (⟨bb, o, none⟩ : Addr) else ⟨bb, o + l * ei.size, none⟩) = ⟨bb, a, none⟩ := by simp only [a]; split <;> rfl
                    rw [e1, hkl]
                    exact den_slice_mk ((Env.le_put (hr.fresh nl (Nat.le_refl _))).n _ _ hN) (by simp [IT.den, Env.put_same]) rfl (hcapN _ (Env.le_put (hr.fresh nl (Nat.le_refl _))))
            · cases h
          · cases h
      · cases h
    · cases h
  · rename_i n e b off hu
    split at h
    · rename_i ei o hei ho
      split at h
      · rename_i l k hl hh
        cases hc : (Nat.ble l k && Nat.ble k n) with
        | false => rw [hc] at h; cases h
        | true =>
          rw [hc] at h; simp only [cond_true, Option.some.injEq, Prod.mk.injEq] at h
          obtain ⟨rfl, rfl⟩ := h
          simp only [Bool.and_eq_true] at hc
          have h1 := Nat.le_of_ble_eq_true hc.1
          have h2 := Nat.le_of_ble_eq_true hc.2
          obtain ⟨bb, o', rfl, hN, hoff⟩ := den_ptr hx
          rw [litNat_den ho] at hoff
          obtain rfl := nat_of_some hoff
          have hb := bounds_ok (P := P) (w := w) (isS := false) (len := n) (cap := n) hl hh dl dh h1 h2
          refine ⟨ρ, w, .slice (some (if n = l then ⟨bb, o, none⟩ else ⟨bb, o + l * ei.size, none⟩)) (k - l) (n - l), Env.Le.refl ρ, ?_, ?_, hr⟩
          · simp only [Instr.sliceAt, Instr.sureAddr, Sem.run_bind, run_und hu, Result.andThen_ok, hb, run_size hei, Sem.run_pure]
            by_cases hcl : n = l
            · simp [hcl]
            · simp [hcl, addr_add]
          · cases hcl : Nat.beq n l with
            | true =>
              rw [if_pos (Nat.eq_of_beq_eq_true hcl)]
              exact den_slice_mk hN rfl rfl rfl
            | false =>
              rw [if_neg (nat_beq_eq hcl)]
              exact den_slice_mk hN rfl rfl rfl
      · cases h
    · cases h
  · cases h

-- COPY
def aCopy (P : Program) (tys : Array TypeId) (d x : AVal) (H : Heap) : Option (AVal × Heap) :=
  match tys.toList with
  | dT :: _ => match P.underlying dT with
    | some (.slice e) => match P.info? e with
      | some ei => match srcCells ei.size x H, d with
        | some (cs, n), .slice l off len _ => match litNat off, litNat len with
          | some o, some m => match aPut H l o (cs.take (Nat.min n m * ei.size)) with
            | some H' => some (.int .i64 (.lit (.ofNat (Nat.min n m))), H')
            | none => none
          | _, _ => none
        | some _, .sliceNil => some (.int .i64 (.lit 0), H)
        | _, _ => none
      | none => none
    | _ => none
  | _ => none

-- MAX, MIN
def mkMx (a b : IT) : IT :=
  match a, b with
  | .lit x, .lit y => .lit (cond (iLt x y) y x)
  | a, b => .mx a b
def mkMn (a b : IT) : IT :=
  match a, b with
  | .lit x, .lit y => .lit (cond (iLt y x) y x)
  | a, b => .mn a b
theorem mkMx_den {a b : IT} {x y : Int} (ha : a.den ρ = some x) (hb : b.den ρ = some y) : (mkMx a b).den ρ = some (if y > x then y else x) := by
  unfold mkMx
  split
  · rename_i x' y'
    obtain rfl := Option.some.inj ha
    obtain rfl := Option.some.inj hb
    simp only [IT.den, iLt_eq, Option.some.injEq]
    by_cases h : x' < y' <;> simp [h]
  · simp only [IT.den, ha, hb]
theorem mkMn_den {a b : IT} {x y : Int} (ha : a.den ρ = some x) (hb : b.den ρ = some y) : (mkMn a b).den ρ = some (if y < x then y else x) := by
  unfold mkMn
  split
  · rename_i x' y'
    obtain rfl := Option.some.inj ha
    obtain rfl := Option.some.inj hb
    simp only [IT.den, iLt_eq, Option.some.injEq]
    by_cases h : y' < x' <;> simp [h]
  · simp only [IT.den, ha, hb]
def aMax : AVal → List AVal → Option AVal
  | x, [] => some x
  | .int k a, .int k' b :: r => cond (decide (k = k')) (aMax (.int k (mkMx a b)) r) none
  | _, _ => none
def aMin : AVal → List AVal → Option AVal
  | x, [] => some x
  | .int k a, .int k' b :: r => cond (decide (k = k')) (aMin (.int k (mkMn a b)) r) none
  | _, _ => none
theorem aMax_ok : ∀ {l : List AVal} {x u : AVal} {xv : Value} {xs : List Value}, aMax x l = some u → x.den ρ = some xv → AVal.denL ρ l = some xs → ∃ y, u.den ρ = some y ∧ (xs.foldlM Builtin.max2 xv).run P w = .ok y w := by
  intro l
  induction l with
  | nil => intro x u xv xs h hx hl; simp only [aMax, Option.some.injEq] at h; subst h; cases hl; exact ⟨xv, hx, rfl⟩
  | cons b r ih =>
    intro x u xv xs h hx hl
    cases x <;> cases b <;> simp only [aMax] at h <;> first
      | (cases h; done)
      | skip
    rename_i k a k' b
    by_cases hk : k = k'
    · subst hk
      simp only [decide_true, cond_true] at h
      simp only [AVal.denL] at hl
      split at hl
      · rename_i y l' hy hl'
        cases hl
        obtain ⟨m, rfl, hm⟩ := den_int hx
        obtain ⟨n, rfl, hn⟩ := den_int hy
        obtain ⟨z, hz, hrun⟩ := ih (xv := .int k (if n > m then n else m)) h (by simp only [AVal.den, mkMx_den hm hn, Option.map_some]) hl'
        refine ⟨z, hz, ?_⟩
        simp only [List.foldlM_cons, Sem.run_bind, Builtin.max2, Sem.run_pure, Result.andThen_ok]
        exact hrun
      · cases hl
    · simp [hk] at h
theorem aMin_ok : ∀ {l : List AVal} {x u : AVal} {xv : Value} {xs : List Value}, aMin x l = some u → x.den ρ = some xv → AVal.denL ρ l = some xs → ∃ y, u.den ρ = some y ∧ (xs.foldlM Builtin.min2 xv).run P w = .ok y w := by
  intro l
  induction l with
  | nil => intro x u xv xs h hx hl; simp only [aMin, Option.some.injEq] at h; subst h; cases hl; exact ⟨xv, hx, rfl⟩
  | cons b r ih =>
    intro x u xv xs h hx hl
    cases x <;> cases b <;> simp only [aMin] at h <;> first
      | (cases h; done)
      | skip
    rename_i k a k' b
    by_cases hk : k = k'
    · subst hk
      simp only [decide_true, cond_true] at h
      simp only [AVal.denL] at hl
      split at hl
      · rename_i y l' hy hl'
        cases hl
        obtain ⟨m, rfl, hm⟩ := den_int hx
        obtain ⟨n, rfl, hn⟩ := den_int hy
        obtain ⟨z, hz, hrun⟩ := ih (xv := .int k (if n < m then n else m)) h (by simp only [AVal.den, mkMn_den hm hn, Option.map_some]) hl'
        refine ⟨z, hz, ?_⟩
        simp only [List.foldlM_cons, Sem.run_bind, Builtin.min2, Sem.run_pure, Result.andThen_ok]
        exact hrun
      · cases hl
    · simp [hk] at h

end
end Go.Vm
end

/-
  A machine for abstract states over the model (part 10): what an operation does.
-/
section
namespace Go.Vm

section
variable {P : Program} {β : Base} {ρ : Env} {H : Heap} {nl : Nat} {w : World}

abbrev Ev := Operand → Option AVal
def EvOk (ρ : Env) (ev : Ev) (f : Operand → Value) : Prop := ∀ x v, ev x = some v → v.den ρ = some (f x)

def evL (ev : Ev) : List Operand → Option (List AVal)
  | [] => some []
  | x :: r => match ev x, evL ev r with
    | some v, some l => some (v :: l)
    | _, _ => none
theorem evL_ok {ev : Ev} {f : Operand → Value} (h : EvOk ρ ev f) : ∀ {l : List Operand} {vs : List AVal}, evL ev l = some vs → AVal.denL ρ vs = some (l.map f)
  | [], vs, e => by cases e; rfl
  | x :: r, vs, e => by
    simp only [evL] at e
    split at e
    · rename_i v l hv hl
      cases e
      simp only [AVal.denL, h x v hv, evL_ok h hl, List.map_cons]
    · cases e
def evP (ev : Ev) : List (Nat × Operand) → Option (List (Nat × AVal))
  | [] => some []
  | (i, x) :: r => match ev x, evP ev r with
    | some v, some l => some ((i, v) :: l)
    | _, _ => none
theorem evP_ok {ev : Ev} {f : Operand → Value} (h : EvOk ρ ev f) : ∀ {l : List (Nat × Operand)} {vs : List (Nat × AVal)}, evP ev l = some vs → denP ρ vs = some (l.map fun p => (p.1, f p.2))
  | [], vs, e => by cases e; rfl
  | (i, x) :: r, vs, e => by
    simp only [evP] at e
    split at e
    · rename_i v l hv hl
      cases e
      simp only [denP, h x v hv, evP_ok h hl, List.map_cons]
    · cases e

def optEv (ev : Ev) : Option Operand → Option (Option AVal)
  | none => some none
  | some x => (ev x).map some
theorem optEv_ok {ev : Ev} {f : Operand → Value} (h : EvOk ρ ev f) {x : Option Operand} {v : Option AVal} (e : optEv ev x = some v) : OptDen ρ v (x.map f) := by
  cases x with
  | none => cases e; trivial
  | some x => obtain ⟨u, hu, rfl⟩ := map_some e; exact h x u hu

/-- A piece of a text. -/
def aSliceS (P : Program) (t : TypeId) (x : AVal) (lo hi : Option AVal) : Option AVal :=
  match P.underlying t, x with
  | some .string, .str (.lit s) => match optLit lo 0, optLit hi s.length with
    | some l, some h => cond (Nat.ble l h && Nat.ble h s.length) (some (.str (.lit ((s.drop l).take (h - l))))) none
    | _, _ => none
  | _, _ => none
theorem aSliceS_ok {t : TypeId} {x u : AVal} {lo hi : Option AVal} {xv : Value} {lov hiv : Option Value} (h : aSliceS P t x lo hi = some u) (hx : x.den ρ = some xv)
    (dl : OptDen ρ lo lov) (dh : OptDen ρ hi hiv) : ∃ y, u.den ρ = some y ∧ ∀ w, (Instr.sliceAt t xv lov hiv none).run P w = .ok y w := by
  unfold aSliceS at h
  split at h
  · rename_i s hu
    split at h
    · rename_i l k hl hh
      cases hc : (Nat.ble l k && Nat.ble k s.length) with
      | false => rw [hc] at h; cases h
      | true =>
        rw [hc] at h; simp only [cond_true, Option.some.injEq] at h
        subst h
        simp only [Bool.and_eq_true] at hc
        have h1 := Nat.le_of_ble_eq_true hc.1
        have h2 := Nat.le_of_ble_eq_true hc.2
        simp only [AVal.den, ST.den, Option.some.injEq] at hx
        subst hx
        refine ⟨.string ⟨((s.drop l).take (k - l)).toArray⟩, rfl, fun w => ?_⟩
        have hsz : (ByteArray.mk s.toArray).size = s.length := by show s.toArray.size = _; simp
        have hb := bounds_ok (P := P) (w := w) (isS := false) (len := s.length) (cap := s.length) hl hh dl dh h1 h2
        have he : (ByteArray.mk s.toArray).extract l k = ⟨((s.drop l).take (k - l)).toArray⟩ := by
          rw [Lib.extract_eq]
        simp [Instr.sliceAt, Instr.slice, run_und hu, hsz, hb, he]
    · cases h
  · cases h

def isK : Operand → Bool
  | .const _ => true
  | _ => false
theorem nilnil_run {t : TypeId} {x y : Operand} {ms : Array (String × TypeId)} (hu : P.underlying t = some (.interface ms)) (hk : (isK x || isK y) = true) (w : World) :
    (do eqGuard .eql t x y .nilIface .nilIface; binOp .eql t .nilIface .nilIface : Sem Value).run P w = .ok (.bool true) w ∧
    (do eqGuard .neq t x y .nilIface .nilIface; binOp .neq t .nilIface .nilIface : Sem Value).run P w = .ok (.bool false) w := by
  have he : (Op.equal t .nilIface .nilIface).run P w = .ok true w := by
    show (Op.equalIn (9999 + 1) t .nilIface .nilIface).run P w = _
    generalize 9999 = d
    simp [Op.equalIn, run_und hu]
  constructor
  · cases x <;> cases y <;> first | (simp [isK] at hk; done) | simp [eqGuard, binOp, he]
  · cases x <;> cases y <;> first | (simp [isK] at hk; done) | simp [eqGuard, binOp, he]

/-- Operations that answer out of their operands alone. -/
-- PIECES AND BYTES WHOSE PLACE IS NO NUMBER
def loT : Option AVal → Option IT
  | none => some (.lit 0)
  | some (.int _ t) => some t
  | _ => none
def hiT : Option AVal → IT → Option IT
  | none, t => some t
  | some (.int _ t), _ => some t
  | _, _ => none
theorem boundE {k : IntKind} {n y : Nat} {c : BoundsCode} (hle : n ≤ y) : (Instr.sliceBound (.int k n) y c).run P w = .ok n w := by
  have : (n : Int) ≤ (y : Int) := by omega
  simp [Instr.sliceBound, asIntOf, hle]
theorem boundsE {isS : Bool} {len cap l h : Nat} {lov hiv : Option Value} (dl : (lov = none ∧ l = 0) ∨ ∃ k, lov = some (.int k l)) (dh : (hiv = none ∧ h = len) ∨ ∃ k, hiv = some (.int k h) ∧ h ≤ cap) (h1 : l ≤ h) :
    (Instr.sliceBounds isS len cap lov hiv none).run P w = .ok (l, h, cap) w := by
  unfold Instr.sliceBounds
  rcases dh with ⟨rfl, rfl⟩ | ⟨k, rfl, h2⟩ <;> rcases dl with ⟨rfl, rfl⟩ | ⟨k', rfl⟩
  · simp
  · simp [boundE h1]
  · simp [boundE h2]
  · simp [boundE h2, boundE h1]
theorem lo_den {lo : Option AVal} {lov : Option Value} {a : IT} (h : loT lo = some a) (d : OptDen ρ lo lov) : ∃ x : Int, a.den ρ = some x ∧ (0 ≤ x → (lov = none ∧ x.toNat = 0) ∨ ∃ k, lov = some (.int k x.toNat)) := by
  cases lo with
  | none =>
    cases h
    cases lov with
    | none => exact ⟨0, rfl, fun _ => .inl ⟨rfl, rfl⟩⟩
    | some v => exact d.elim
  | some u =>
    cases lov with
    | none => exact d.elim
    | some v =>
      cases u <;> simp only [loT] at h <;> first | (cases h; done) | skip
      cases h
      obtain ⟨x, rfl, hx⟩ := den_int (show AVal.den ρ _ = some v from d)
      exact ⟨x, hx, fun h0 => .inr ⟨_, by rw [Int.toNat_of_nonneg h0]⟩⟩
theorem hi_den {hi : Option AVal} {hiv : Option Value} {a t : IT} {n : Nat} (h : hiT hi t = some a) (d : OptDen ρ hi hiv) (ht : t.den ρ = some (n : Int)) : ∃ x : Int, a.den ρ = some x ∧ ((hi = none ∧ hiv = none ∧ x = (n : Int)) ∨ (hi.isSome = true ∧ (0 ≤ x → ∃ k, hiv = some (.int k x.toNat)))) := by
  cases hi with
  | none =>
    cases h
    cases hiv with
    | none => exact ⟨n, ht, .inl ⟨rfl, rfl, rfl⟩⟩
    | some v => exact d.elim
  | some u =>
    cases hiv with
    | none => exact d.elim
    | some v =>
      cases u <;> simp only [hiT] at h <;> first | (cases h; done) | skip
      cases h
      obtain ⟨x, rfl, hx⟩ := den_int (show AVal.den ρ _ = some v from d)
      exact ⟨x, hx, .inr ⟨rfl, fun h0 => ⟨_, by rw [Int.toNat_of_nonneg h0]⟩⟩⟩
/-- So long a text is no more than that. -/
def far : Int := 4611686018427387904
def aSliceX (P : Program) (t : TypeId) (x : AVal) (lo hi : Option AVal) : Option (AVal × List BT) :=
  match P.underlying t, x with
  | some (.slice e), .slice b off len cap => match litNat len, P.info? e, loT lo, hiT hi len with
    | none, some ei, some a, some h => some (cond lo.isSome (.slice b (.elem off ei.size 0 (.un 13 a cap)) (.un 14 h a) (.un 14 cap a)) (.slice b off h cap), [.cmp .geq a (.lit 0), .cmp .leq a h] ++ cond hi.isSome [.cmp .leq h cap] [])
    | _, _, _, _ => none
  | some .string, .str s => match loT lo, hiT hi (.slen s) with
    | some a, some h => match a.toP, (cond hi.isSome h (.lit 4611686018427387904)).toP with
      | some pa, some ph => some (.str (.sub s pa ph), [.cmp .geq a (.lit 0), .cmp .leq a h, .cmp .leq h (.slen s), .cmp .leq (.slen s) (.lit 4611686018427387904)])
      | _, _ => none
    | _, _ => none
  | _, _ => none
theorem aSliceX_ok {t : TypeId} {x u : AVal} {lo hi : Option AVal} {mu : List BT} {xv : Value} {lov hiv : Option Value} (h : aSliceX P t x lo hi = some (u, mu)) (hm : ∀ c ∈ mu, c.den ρ = some true) (hx : x.den ρ = some xv)
    (dl : OptDen ρ lo lov) (dh : OptDen ρ hi hiv) : ∃ y, u.den ρ = some y ∧ ∀ w, (Instr.sliceAt t xv lov hiv none).run P w = .ok y w := by
  unfold aSliceX at h
  split at h
  · rename_i e b off len cap hu
    split at h
    rotate_left
    · cases h
    rename_i ei a hT hlit hei hlo hhi
    simp only [Option.some.injEq, Prod.mk.injEq] at h
    obtain ⟨rfl, rfl⟩ := h
    obtain ⟨bb, o, n, c, rfl, hN, hoff, hlen, hcap⟩ := den_slice hx
    obtain ⟨xa, hxa, hla⟩ := lo_den hlo dl
    obtain ⟨xh, hxh, hlh⟩ := hi_den hhi dh hlen
    have m1 := hm (.cmp .geq a (.lit 0)) (by simp)
    have m2 := hm (.cmp .leq a hT) (by simp)
    simp only [BT.den, IT.den, hxa, hxh, intCmp, Option.some.injEq, decide_eq_true_eq] at m1 m2
    have hb : ∃ l k : Nat, xa = (l : Int) ∧ xh = (k : Int) ∧ l ≤ k := ⟨xa.toNat, xh.toNat, by omega, by omega, by omega⟩
    obtain ⟨l, k, rfl, rfl, hlk⟩ := hb
    have hla := hla (by omega)
    rw [Int.toNat_natCast] at hla
    have hbd : ∀ w, (Instr.sliceBounds true n c lov hiv none).run P w = .ok (l, k, c) w := by
      intro w
      refine boundsE hla ?_ hlk
      rcases hlh with ⟨_, rfl, hk⟩ | ⟨hsome, hh⟩
      · exact .inl ⟨rfl, by omega⟩
      · obtain ⟨kk, hkk⟩ := hh (by omega)
        have m3 := hm (.cmp .leq hT cap) (by rw [hsome]; simp)
        simp only [BT.den, hxh, hcap, intCmp, Option.some.injEq, decide_eq_true_eq] at m3
        rw [Int.toNat_natCast] at hkk
        exact .inr ⟨kk, hkk, by have : (k : Int) ≤ (c : Int) := m3; omega⟩
    refine ⟨.slice (if c = l then some ⟨bb, o, none⟩ else some ((⟨bb, o, none⟩ : Addr).add (l * ei.size))) (k - l) (c - l), ?_, fun w => ?_⟩
    · cases hs : lo.isSome with
      | true =>
        simp only [cond_true]
        have e1 : (IT.un 13 a cap).den ρ = some (if l = c then 0 else (l : Int)) := by
          have e0 : (if (l : Int) = Int.ofNat c then 0 else (l : Int)) = if l = c then 0 else (l : Int) := by
            by_cases hlc : l = c
            · subst hlc; simp
            · have : ¬ (l : Int) = Int.ofNat c := by intro e; exact hlc (Int.ofNat.inj e)
              rw [if_neg hlc, if_neg this]
          simp only [IT.den, hxa, hcap, univ]
          rw [e0]
        have e2 : (IT.un 14 hT a).den ρ = some ((k - l : Nat) : Int) := by
          have e0 : (if (l : Int) ≤ (k : Int) then (k : Int) - (l : Int) else 0) = ((k - l : Nat) : Int) := by
            rw [if_pos (by omega)]; omega
          simp only [IT.den, hxa, hxh, univ]
          rw [e0]
        have e3 : (IT.un 14 cap a).den ρ = some ((c - l : Nat) : Int) := by
          have e0 : (if (l : Int) ≤ Int.ofNat c then Int.ofNat c - (l : Int) else 0) = ((c - l : Nat) : Int) := by
            have e9 : (Int.ofNat c : Int) = (c : Int) := rfl
            rw [e9]
            by_cases hlc : (l : Int) ≤ (c : Int)
            · rw [if_pos hlc]; omega
            · rw [if_neg hlc]; omega
          simp only [IT.den, hxa, hcap, univ]
          rw [e0]
        have e4 : natOf ((IT.elem off ei.size 0 (.un 13 a cap)).den ρ) = some (if l = c then o else o + l * ei.size) := by
          simp only [IT.den, hoff] at e1 ⊢
          rw [e1]
          by_cases hlc : l = c
          · subst hlc; simp [natOf]
          · simp only [hlc, if_false, Int.toNat_natCast]
            show natOf (some (Int.ofNat (o + (l * ei.size + 0)))) = _
            simp [natOf]
        have e5 : natOf ((IT.un 14 hT a).den ρ) = some (k - l) := by rw [e2]; rfl
        have e6 : natOf ((IT.un 14 cap a).den ρ) = some (c - l) := by rw [e3]; rfl
        simp only [AVal.den, hN, e4, e5, e6]
        by_cases hlc : l = c
        · subst hlc; simp
        · rw [if_neg hlc, if_neg (fun e => hlc e.symm), addr_add]
      | false =>
        simp only [cond_false]
        have hl0 : l = 0 := by
          cases lo with
          | some _ => cases hs
          | none => cases hlo; have := Option.some.inj hxa; omega
        subst hl0
        have e1 : natOf (off.den ρ) = some o := by rw [hoff]; rfl
        have e2 : natOf (hT.den ρ) = some k := by rw [hxh]; rfl
        have e3 : natOf (cap.den ρ) = some c := by rw [hcap]; rfl
        simp only [AVal.den, hN, e1, e2, e3, Nat.sub_zero, Nat.zero_mul, addr_add, Nat.add_zero]
        split <;> rfl
    · simp only [Instr.sliceAt, Instr.slice, Sem.run_bind, run_und hu, Result.andThen_ok, hbd w, run_size hei, Sem.run_pure]
      split <;> rfl
  · rename_i s hu
    split at h
    rotate_left
    · cases h
    rename_i a hT hlo hhi
    split at h
    rotate_left
    · cases h
    rename_i pa ph hpa hph
    simp only [Option.some.injEq, Prod.mk.injEq] at h
    obtain ⟨rfl, rfl⟩ := h
    simp only [AVal.den, Option.some.injEq] at hx
    subst hx
    obtain ⟨xa, hxa, hla⟩ := lo_den hlo dl
    obtain ⟨xh, hxh, hlh⟩ := hi_den (n := (s.den ρ).size) hhi dh rfl
    have m1 := hm (.cmp .geq a (.lit 0)) (by simp)
    have m2 := hm (.cmp .leq a hT) (by simp)
    have m3 := hm (.cmp .leq hT (.slen s)) (by simp)
    have m4 := hm (.cmp .leq (.slen s) (.lit 4611686018427387904)) (by simp)
    simp only [BT.den, IT.den, hxa, hxh, intCmp, Option.some.injEq, decide_eq_true_eq] at m1 m2 m3 m4
    have hb : ∃ l k : Nat, xa = (l : Int) ∧ xh = (k : Int) ∧ l ≤ k := ⟨xa.toNat, xh.toNat, by omega, by omega, by omega⟩
    obtain ⟨l, k, rfl, rfl, hlk⟩ := hb
    have hla := hla (by omega)
    rw [Int.toNat_natCast] at hla
    have hbd : ∀ w, (Instr.sliceBounds false (s.den ρ).size (s.den ρ).size lov hiv none).run P w = .ok (l, k, (s.den ρ).size) w := by
      intro w
      refine boundsE hla ?_ hlk
      rcases hlh with ⟨_, rfl, hk⟩ | ⟨hsome, hh⟩
      · exact .inl ⟨rfl, by omega⟩
      · obtain ⟨kk, hkk⟩ := hh (by omega)
        rw [Int.toNat_natCast] at hkk
        exact .inr ⟨kk, hkk, by omega⟩
    refine ⟨.string ((s.den ρ).extract l k), ?_, fun w => ?_⟩
    · have e1 : pa.den ρ = (l : Int) := Option.some.inj ((IT.toP_den hpa).symm.trans hxa)
      simp only [AVal.den, ST.den, e1, Int.toNat_natCast]
      rcases hlh with ⟨rfl, _, hk⟩ | ⟨hsome, _⟩
      · have e2 : ph.den ρ = 4611686018427387904 := Option.some.inj (IT.toP_den (ρ := ρ) hph).symm
        rw [e2]
        congr 2
        rw [Lib.extract_eq, Lib.extract_eq]
        have hsz : (s.den ρ).data.toList.length = (s.den ρ).size := by simp
        congr 2
        rw [List.take_of_length_le (by simp; omega), List.take_of_length_le (by simp; omega)]
      · rw [hsome] at hph
        have e2 : ph.den ρ = (k : Int) := Option.some.inj ((IT.toP_den hph).symm.trans hxh)
        rw [e2, Int.toNat_natCast]
    · simp [Instr.sliceAt, Instr.slice, run_und hu, hbd w]
  · cases h
/-- A place in a row, told from the row's beginning. -/
def normE (t : IT) : IT := match idxOf t with
  | some (q, sz, j, i) => .elem q sz j i
  | none => t
theorem normE_den {t : IT} {y : Int} (h : t.den ρ = some y) : (normE t).den ρ = some y := by
  unfold normE
  split
  · rename_i q sz j i hi
    obtain ⟨q0, x, h1, h2, h3⟩ := idxOf_ok hi h
    simp only [IT.den, h1, h2, h3]
  · exact h
def normS : AVal → AVal
  | .slice b off len cap => .slice b (normE off) len cap
  | v => v
theorem normS_den {u : AVal} {y : Value} (h : u.den ρ = some y) : (normS u).den ρ = some y := by
  unfold normS
  split
  · obtain ⟨b, o, n, c, rfl, h1, h2, h3, h4⟩ := den_slice h
    exact den_slice_mk h1 (normE_den h2) h3 h4
  · exact h
def aSliceY (P : Program) (t : TypeId) (x : AVal) (lo hi : Option AVal) : Option (AVal × List BT) := (aSliceX P t x lo hi).map fun p => (normS p.1, p.2)
theorem aSliceY_ok {t : TypeId} {x u : AVal} {lo hi : Option AVal} {mu : List BT} {xv : Value} {lov hiv : Option Value} (h : aSliceY P t x lo hi = some (u, mu)) (hm : ∀ c ∈ mu, c.den ρ = some true) (hx : x.den ρ = some xv)
    (dl : OptDen ρ lo lov) (dh : OptDen ρ hi hiv) : ∃ y, u.den ρ = some y ∧ ∀ w, (Instr.sliceAt t xv lov hiv none).run P w = .ok y w := by
  obtain ⟨p, hp, he⟩ := Option.map_eq_some_iff.1 h
  cases he
  obtain ⟨y, h1, h2⟩ := aSliceX_ok hp hm hx dl dh
  exact ⟨y, normS_den h1, h2⟩
/-- A byte of a text. -/
def aIndexX (P : Program) (t : TypeId) (x ix : AVal) : Option (AVal × List BT) :=
  match P.underlying t, x, ix with
  | some .string, .str s, .int _ i => some (.int .u8 (.un 0 (.scode s) i), [.cmp .geq i (.lit 0), .cmp .lss i (.slen s)])
  | some (.array len elem), .agg cs, .int _ i => match P.info? elem, P.underlying elem, uniA cs with
    | some e, some d, some (c, s, n) => cond (Nat.beq e.size 1 && !aggB d && Nat.ble len n) (some (.int .i64 (.un 0 c (.elem (.lit (.ofNat s)) 1 0 i)), inRow i (.lit (.ofNat len)))) none
    | _, _, _ => none
  | _, _, _ => none
theorem aIndexX_ok {t : TypeId} {x ix u : AVal} {mu : List BT} {xv iv : Value} (h : aIndexX P t x ix = some (u, mu)) (hm : ∀ c ∈ mu, c.den ρ = some true) (hx : x.den ρ = some xv) (hi : ix.den ρ = some iv) :
    ∃ y, u.den ρ = some y ∧ ∀ w, (Instr.index t xv iv).run P w = .ok y w := by
  unfold aIndexX at h
  split at h
  rotate_left
  · rename_i len elem cs k i hu
    split at h
    rotate_left
    · cases h
    rename_i e d c s n he hd hun
    cases hq : (Nat.beq e.size 1 && !aggB d && Nat.ble len n) with
    | false => rw [hq] at h; cases h
    | true =>
      rw [hq] at h; simp only [cond_true, Option.some.injEq, Prod.mk.injEq] at h
      obtain ⟨rfl, rfl⟩ := h
      simp only [Bool.and_eq_true, Bool.not_eq_true'] at hq
      obtain ⟨⟨q1, hag⟩, q3⟩ := hq
      have q1 := Nat.eq_of_beq_eq_true q1
      have q3 := Nat.le_of_ble_eq_true q3
      obtain ⟨z, rfl, hz⟩ := den_int hi
      obtain ⟨y, rfl, hy⟩ := inRow_den (m := len) hm hz rfl
      simp only [AVal.den] at hx
      obtain ⟨l, hl, rfl⟩ := Option.map_eq_some_iff.1 hx
      rw [uniA_n hun] at q3
      obtain ⟨cv, hcv, hget⟩ := uni_den hl (show y < uniN c s cs by omega)
      refine ⟨.int .i64 ((decL cv).getD (s + y) 0), by simp only [AVal.den, nthC_den hcv hz, Option.map_some], fun w => ?_⟩
      have h1 : (0 : Int) ≤ (y : Int) ∧ (y : Int) < (len : Int) := by omega
      have hy' : l.toArray[y]? = some (.int .i64 ((decL cv).getD (s + y) 0)) := by simpa using hget
      simp [Instr.index, asIntOf, run_und hu, run_size he, h1, hy, q1, part, run_isAgg hd, hag, hget]
  · cases h
  rename_i s k i hu
  cases h
  obtain ⟨z, rfl, hz⟩ := den_int hi
  simp only [AVal.den, Option.some.injEq] at hx
  subst hx
  have m1 := hm (.cmp .geq i (.lit 0)) (by simp)
  have m2 := hm (.cmp .lss i (.slen s)) (by simp)
  simp only [BT.den, IT.den, hz, intCmp, Option.some.injEq, decide_eq_true_eq] at m1 m2
  obtain ⟨n, rfl⟩ := Int.eq_ofNat_of_zero_le m1
  have hlt : n < (s.den ρ).size := by omega
  have hl : n < (s.den ρ).data.toList.length := by
    have : (s.den ρ).data.toList.length = (s.den ρ).size := by simp
    omega
  have hg : (s.den ρ)[n]? = some ((s.den ρ).data.toList[n]) := by
    rw [getElem?_pos (s.den ρ) n hlt]
    congr 1
  refine ⟨.int .u8 ((s.den ρ).data.toList[n].toNat : Int), ?_, fun w => ?_⟩
  · simp only [AVal.den, IT.den, hz, univ, encS, decL_encL, Int.toNat_natCast, Option.map_some, List.getD_eq_getElem?_getD, List.getElem?_map, List.getElem?_eq_getElem hl, Option.getD_some]
  · simp [Instr.index, asIntOf, run_und hu, hg]

/-- Nothing of a slice, with no room behind it: s[:0:0]. -/
def aSlice3 (P : Program) (t : TypeId) (x : AVal) (lo : Option AVal) (hi mx : AVal) : Option AVal :=
  match P.underlying t, x with
  | some (.slice e), .slice b off _ _ => match P.info? e, optLit lo 0, litOf hi, litOf mx with
    | some _, some 0, some 0, some 0 => some (.slice b off (.lit 0) (.lit 0))
    | _, _, _, _ => none
  | some (.slice e), .sliceNil => match P.info? e, optLit lo 0, litOf hi, litOf mx with
    | some _, some 0, some 0, some 0 => some .sliceNil
    | _, _, _, _ => none
  | _, _ => none
theorem bounds3 {n c : Nat} {lo : Option AVal} {hi mx : AVal} {lov : Option Value} {hiv mxv : Value} (hl : optLit lo 0 = some 0) (hh : litOf hi = some 0) (hm : litOf mx = some 0) (dl : OptDen ρ lo lov) (dh : hi.den ρ = some hiv) (dm : mx.den ρ = some mxv) :
    (Instr.sliceBounds true n c lov (some hiv) (some mxv)).run P w = .ok (0, 0, 0) w := by
  have b1 := bound_ok (P := P) (w := w) (c := .slice3Acap) hm dm (Nat.zero_le c)
  have b2 := bound_ok (P := P) (w := w) (c := .slice3B) hh dh (Nat.le_refl 0)
  unfold Instr.sliceBounds
  cases lo with
  | none =>
    cases lov with
    | some x => exact dl.elim
    | none => simp [b1, b2]
  | some v =>
    cases lov with
    | none => exact dl.elim
    | some x =>
      have b3 := bound_ok (P := P) (w := w) (c := .slice3C) hl dl (Nat.le_refl 0)
      simp [b1, b2, b3]
theorem aSlice3_ok {t : TypeId} {x u : AVal} {lo : Option AVal} {hi mx : AVal} {xv : Value} {lov : Option Value} {hiv mxv : Value} (h : aSlice3 P t x lo hi mx = some u) (hx : x.den ρ = some xv) (dl : OptDen ρ lo lov) (dh : hi.den ρ = some hiv) (dm : mx.den ρ = some mxv) :
    ∃ y, u.den ρ = some y ∧ ∀ w, (Instr.sliceAt t xv lov (some hiv) (some mxv)).run P w = .ok y w := by
  unfold aSlice3 at h
  split at h
  · rename_i e b off len cap hu
    split at h
    · rename_i ei hei hl hh hm
      cases h
      obtain ⟨bb, o, n, c, rfl, hN, hoff, hlen, hcap⟩ := den_slice hx
      refine ⟨_, den_slice_mk hN hoff rfl rfl, fun w => ?_⟩
      simp only [Instr.sliceAt, Instr.slice, Sem.run_bind, run_und hu, Result.andThen_ok, bounds3 hl hh hm dl dh dm, run_size hei, Sem.run_pure, if_true, Nat.sub_self]
    · cases h
  · rename_i e hu
    split at h
    · rename_i ei hei hl hh hm
      cases h; cases hx
      refine ⟨_, rfl, fun w => ?_⟩
      simp only [Instr.sliceAt, Instr.slice, Sem.run_bind, run_und hu, Result.andThen_ok, bounds3 hl hh hm dl dh dm, run_size hei, Sem.run_pure, if_true, Nat.sub_self]
    · cases h
  · cases h

def aPure (P : Program) (o : Op) (ev : Ev) : Option (AVal × List BT) :=
  match o with
  | .move x | .assign x => (ev x).map fun v => (v, [])
  | .pick c a b => match ev c with
    | some (.bool (.lit true)) => (ev a).map fun v => (v, [])
    | some (.bool (.lit false)) => (ev b).map fun v => (v, [])
    | _ => none
  | .nilCheck x => (ev x).bind fun v => (aNilCheck v).map fun u => (u, [])
  | .binOp op t x y _ => match ev x, ev y with
    | some .nilIface, some .nilIface => cond (isK x || isK y) (match P.underlying t, op with
      | some (.interface _), .eql => some (.bool (.lit true), [])
      | some (.interface _), .neq => some (.bool (.lit false), [])
      | _, _ => none) none
    | some a, some b => aBin P op t a b
    | _, _ => none
  | .unOp op _ x => (ev x).bind fun v => (aUn op v).map fun u => (u, [])
  | .convert s d x => (ev x).bind fun v => (aConv P s d v).map fun u => (u, [])
  | .makeInterface t x => (ev x).bind fun v => (aMkIface P t v).map fun u => (u, [])
  | .makeFunc fn a b => match evL ev a.toList, evL ev b.toList with
    | some l, some r => some (.func fn l r, [])
    | _, _ => none
  | .fieldAddr s x i => (ev x).bind fun v => (aFieldAddr P s v i).map fun u => (u, [])
  | .field t x i => (ev x).bind fun v => (aField P t v i).map fun u => (u, [])
  | .indexAddr t x i => match ev x, ev i with
    | some a, some b => match aIndexAddr P t a b with
      | some u => some (u, [])
      | none => aIndexAddrE P t a b
    | _, _ => none
  | .index t x i => match ev x, ev i with
    | some a, some b => match aIndex P t a b with
      | some u => some (u, [])
      | none => aIndexX P t a b
    | _, _ => none
  | .typeAssert x _ a c => (ev x).bind fun v => (aAssert P v a c).map fun u => (u, [])
  | .extract x i => (ev x).bind fun v => (aExtract v i).map fun u => (u, [])
  | .build t parts => (evP ev parts.toList).bind fun l => (aBuild P t l).map fun u => (u, [])
  | .slice t x lo hi none => match ev x, optEv ev lo, optEv ev hi with
    | some x, some l, some h => match aSliceS P t x l h with
      | some u => some (u, [])
      | none => aSliceY P t x l h
    | _, _, _ => none
  | .slice t x lo (some hi) (some mx) => match ev x, optEv ev lo, ev hi, ev mx with
    | some x, some l, some h, some m => (aSlice3 P t x l h m).map fun u => (u, [])
    | _, _, _, _ => none
  | .call { callee := .builtin .max, args, argTypes := _ } => match evL ev args.toList with
    | some (x :: r) => (aMax x r).map fun u => (u, [])
    | _ => none
  | .call { callee := .builtin .min, args, argTypes := _ } => match evL ev args.toList with
    | some (x :: r) => (aMin x r).map fun u => (u, [])
    | _ => none
  | _ => none

theorem bindSome {α β : Type} {o : Option α} {f : α → Option β} {b : β} (h : o.bind f = some b) : ∃ a, o = some a ∧ f a = some b := Option.bind_eq_some_iff.1 h

theorem aPure_ok {o : Oper} {ev : Ev} {f : Operand → Value} {u : AVal} {mu : List BT} (h : aPure P o.op ev = some (u, mu)) (he : EvOk ρ ev f) (hm : ∀ c ∈ mu, c.den ρ = some true) :
    ∃ x, u.den ρ = some x ∧ ∀ w, (execOp f o).run P w = .ok (.value x) w := by
  unfold aPure at h
  split at h
  · rename_i x ho
    obtain ⟨v, hv, e⟩ := map_some h; cases e
    exact ⟨f x, he x _ hv, fun w => by simp [execOp, ho]⟩
  · rename_i x ho
    obtain ⟨v, hv, e⟩ := map_some h; cases e
    exact ⟨f x, he x _ hv, fun w => by simp [execOp, ho]⟩
  · rename_i c a b ho
    split at h
    · rename_i hc
      obtain ⟨v, hv, e⟩ := map_some h; cases e
      have := den_litb (he c _ hc)
      exact ⟨f a, he a _ hv, fun w => by simp [execOp, ho, this, asBool]⟩
    · rename_i hc
      obtain ⟨v, hv, e⟩ := map_some h; cases e
      have := den_litb (he c _ hc)
      exact ⟨f b, he b _ hv, fun w => by simp [execOp, ho, this, asBool]⟩
    · cases h
  · rename_i x ho
    obtain ⟨v, hv, e⟩ := bindSome h
    obtain ⟨u', hu', e'⟩ := map_some e; cases e'
    obtain ⟨h1, _⟩ := aNilCheck_ok (P := P) (w := default) hu' (he x v hv)
    refine ⟨f x, h1, fun w => ?_⟩
    have h2 := (aNilCheck_ok (P := P) (w := w) hu' (he x v hv)).2
    rw [← h2]
    simp only [execOp, ho, nilCheckSem]
  · rename_i op t x y yt ho
    split at h
    · rename_i ha hb
      cases hk : (isK x || isK y) with
      | false => rw [hk] at h; cases h
      | true =>
        rw [hk] at h; simp only [cond_true] at h
        have h1 := den_nilIface (he x _ ha)
        have h2 := den_nilIface (he y _ hb)
        split at h
        · rename_i ms hu
          cases h
          refine ⟨.bool true, rfl, fun w => ?_⟩
          have := (nilnil_run (x := x) (y := y) hu hk w).1
          simp only [execOp, ho, h1, h2, Sem.run_bind] at this ⊢
          rw [this]; rfl
        · rename_i ms hu
          cases h
          refine ⟨.bool false, rfl, fun w => ?_⟩
          have := (nilnil_run (x := x) (y := y) hu hk w).2
          simp only [execOp, ho, h1, h2, Sem.run_bind] at this ⊢
          rw [this]; rfl
        · cases h
    · rename_i a b _ ha hb
      obtain ⟨z, hz, hr⟩ := aBin_ok h (he x a ha) (he y b hb) hm
      refine ⟨z, hz, fun w => ?_⟩
      have := hr w x y
      simp only [execOp, ho, Sem.run_bind, Sem.run_pure] at this ⊢
      rw [this]; rfl
    · cases h
  · rename_i op t x ho
    obtain ⟨v, hv, e⟩ := bindSome h
    obtain ⟨u', hu', e'⟩ := map_some e; cases e'
    obtain ⟨z, hz, hr⟩ := aUn_ok (P := P) hu' (he x v hv)
    exact ⟨z, hz, fun w => by simp [execOp, ho, hr w]⟩
  · rename_i s d x ho
    obtain ⟨v, hv, e⟩ := bindSome h
    obtain ⟨u', hu', e'⟩ := map_some e; cases e'
    obtain ⟨z, hz, hr⟩ := aConv_ok (P := P) hu' (he x v hv)
    exact ⟨z, hz, fun w => by simp [execOp, ho, hr w]⟩
  · rename_i t x ho
    obtain ⟨v, hv, e⟩ := bindSome h
    obtain ⟨u', hu', e'⟩ := map_some e; cases e'
    obtain ⟨z, hz, hr⟩ := aMkIface_ok (P := P) hu' (he x v hv)
    exact ⟨z, hz, fun w => by simp [execOp, ho, hr w]⟩
  · rename_i fn a b ho
    split at h
    · rename_i l r hl hr
      cases h
      refine ⟨.func fn (a.map f) (b.map f), ?_, fun w => by simp [execOp, ho, Instr.makeFunc]⟩
      have e1 : (a.map f) = (a.toList.map f).toArray := by apply Array.toList_inj.1; simp
      have e2 : (b.map f) = (b.toList.map f).toArray := by apply Array.toList_inj.1; simp
      rw [e1, e2]
      simp only [AVal.den, evL_ok he hl, evL_ok he hr]
    · cases h
  · rename_i s x i ho
    obtain ⟨v, hv, e⟩ := bindSome h
    obtain ⟨u', hu', e'⟩ := map_some e; cases e'
    obtain ⟨z, hz, _⟩ := aFieldAddr_ok (P := P) (w := default) hu' (he x v hv)
    refine ⟨z, hz, fun w => ?_⟩
    obtain ⟨z', hz', hr⟩ := aFieldAddr_ok (P := P) (w := w) hu' (he x v hv)
    rw [hz] at hz'; cases hz'
    simp [execOp, ho, hr]
  · rename_i t x i ho
    obtain ⟨v, hv, e⟩ := bindSome h
    obtain ⟨u', hu', e'⟩ := map_some e; cases e'
    obtain ⟨z, hz, hr⟩ := aField_ok (P := P) hu' (he x v hv)
    exact ⟨z, hz, fun w => by simp [execOp, ho, hr w]⟩
  · rename_i t x i ho
    split at h
    · rename_i a b ha hb
      split at h
      rotate_left
      · obtain ⟨z, hz, hr⟩ := aIndexAddrE_ok (P := P) h (he x a ha) (he i b hb) hm
        exact ⟨z, hz, fun w => by simp [execOp, ho, hr]⟩
      rename_i u' hu'
      cases h
      obtain ⟨z, hz, _⟩ := aIndexAddr_ok (P := P) (w := default) hu' (he x a ha) (he i b hb)
      refine ⟨z, hz, fun w => ?_⟩
      obtain ⟨z', hz', hr⟩ := aIndexAddr_ok (P := P) (w := w) hu' (he x a ha) (he i b hb)
      rw [hz] at hz'; cases hz'
      simp [execOp, ho, hr]
    · cases h
  · rename_i t x i ho
    split at h
    · rename_i a b ha hb
      split at h
      · rename_i u' hu'
        cases h
        obtain ⟨z, hz, hr⟩ := aIndex_ok (P := P) hu' (he x a ha) (he i b hb)
        exact ⟨z, hz, fun w => by simp [execOp, ho, hr w]⟩
      · obtain ⟨z, hz, hr⟩ := aIndexX_ok (P := P) h hm (he x a ha) (he i b hb)
        exact ⟨z, hz, fun w => by simp [execOp, ho, hr w]⟩
    · cases h
  · rename_i x xt a c ho
    obtain ⟨v, hv, e⟩ := bindSome h
    obtain ⟨u', hu', e'⟩ := map_some e; cases e'
    obtain ⟨z, hz, hr⟩ := aAssert_ok (P := P) (xt := xt) hu' (he x v hv)
    exact ⟨z, hz, fun w => by simp [execOp, ho, hr w]⟩
  · rename_i x i ho
    obtain ⟨v, hv, e⟩ := bindSome h
    obtain ⟨u', hu', e'⟩ := map_some e; cases e'
    obtain ⟨z, hz, hr⟩ := aExtract_ok (P := P) hu' (he x v hv)
    exact ⟨z, hz, fun w => by simp [execOp, ho, hr w]⟩
  · rename_i t parts ho
    obtain ⟨l, hl, e⟩ := bindSome h
    obtain ⟨u', hu', e'⟩ := map_some e; cases e'
    have hp := evP_ok he hl
    obtain ⟨z, hz, _⟩ := aBuild_ok (P := P) (w := default) hu' hp
    refine ⟨z, hz, fun w => ?_⟩
    obtain ⟨z', hz', hr⟩ := aBuild_ok (P := P) (w := w) hu' hp
    rw [hz] at hz'; cases hz'
    have ea : (parts.map fun (i, x) => (i, f x)) = (parts.toList.map fun p => (p.1, f p.2)).toArray := by apply Array.toList_inj.1; simp
    simp only [execOp, ho, ea, Sem.run_bind, hr, Result.andThen_ok, Sem.run_pure]
  · rename_i t x lo hi ho
    split at h
    · rename_i xv l k hx hl hk
      split at h
      · rename_i u' hu'
        cases h
        obtain ⟨z, hz, hr⟩ := aSliceS_ok (P := P) hu' (he x xv hx) (optEv_ok he hl) (optEv_ok he hk)
        exact ⟨z, hz, fun w => by simp [execOp, ho, hr w]⟩
      · obtain ⟨z, hz, hr⟩ := aSliceY_ok (P := P) h hm (he x xv hx) (optEv_ok he hl) (optEv_ok he hk)
        exact ⟨z, hz, fun w => by simp [execOp, ho, hr w]⟩
    · cases h
  · rename_i t x lo hi mx ho
    split at h
    · rename_i xv l k m hx hl hk hm'
      obtain ⟨u', hu', e'⟩ := map_some h; cases e'
      obtain ⟨z, hz, hr⟩ := aSlice3_ok (P := P) hu' (he x xv hx) (optEv_ok he hl) (he hi k hk) (he mx m hm')
      exact ⟨z, hz, fun w => by simp [execOp, ho, hr w]⟩
    · cases h
  · rename_i args tys ho
    split at h
    · rename_i x r hl
      obtain ⟨u', hu', e'⟩ := map_some h; cases e'
      have hd := evL_ok he hl
      simp only [AVal.denL] at hd
      split at hd
      · rename_i xv l hxv hlv
        have hd := Option.some.inj hd
        obtain ⟨z, hz, _⟩ := aMax_ok (w := default) (P := P) hu' hxv hlv
        refine ⟨z, hz, fun w => ?_⟩
        obtain ⟨z', hz', hr⟩ := aMax_ok (w := w) (P := P) hu' hxv hlv
        rw [hz] at hz'; cases hz'
        have : (args.map f).toList = xv :: l := by simp [← hd]
        simp [execOp, ho, resolve, invoke, builtin, Builtin.max_, ← hd, hr]
      · cases hd
    · cases h
  · rename_i args tys ho
    split at h
    · rename_i x r hl
      obtain ⟨u', hu', e'⟩ := map_some h; cases e'
      have hd := evL_ok he hl
      simp only [AVal.denL] at hd
      split at hd
      · rename_i xv l hxv hlv
        have hd := Option.some.inj hd
        obtain ⟨z, hz, _⟩ := aMin_ok (w := default) (P := P) hu' hxv hlv
        refine ⟨z, hz, fun w => ?_⟩
        obtain ⟨z', hz', hr⟩ := aMin_ok (w := w) (P := P) hu' hxv hlv
        rw [hz] at hz'; cases hz'
        simp [execOp, ho, resolve, invoke, builtin, Builtin.min_, ← hd, hr]
      · cases hd
    · cases h
  · cases h

end
end Go.Vm
end
