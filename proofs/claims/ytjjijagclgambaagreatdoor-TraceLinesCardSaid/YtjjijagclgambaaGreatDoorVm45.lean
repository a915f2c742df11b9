/-
  A machine for abstract states over the model (part 44): a range over a map whose entries are known goes on, whichever of them comes.
-/
import Derived.Test.YtjjijagclgambaaGreatDoorVm32
import Derived.Maps.RangeRun
import Derived.Laws.StructEq
section
namespace Go.Vm

def nxK (r l since cl : Nat) (seen : List Nat) (H : Heap) (nl : Nat) (cs : Cs) (e : AVal × AVal × Nat) : Leaf :=
  .ret (.tuple [.bool (.lit true), e.1, e.2.1]) (H.set r ⟨.iter l since (seen ++ [e.2.2]) cl, true⟩) nl cs
def hkNextK : OpF := fun o ev H nl cs => match o with
  | .next x false => match ev x with
    | some (.ptr r (.lit (.ofNat 0))) => match H.get r with
      | some ⟨.iter l since seen last, true⟩ => match H.get l with
        | some ⟨.map es cl, _⟩ => cond (es.all (fun e => Nat.blt e.2.2 since) && Nat.ble since last) (match Vm.leftOf es seen with
          | [] => some [.ret (.tuple [.bool (.lit false)]) H nl cs]
          | e :: L => some ((e :: L).map (nxK r l since cl seen H nl cs))) none
        | _ => none
      | _ => none
    | _ => none
  | _ => none
theorem esDen_mem {ρ : Env} : ∀ {es : List (AVal × AVal × Nat)} {xs : List MapEntry}, esDen ρ es = some xs → ∀ x ∈ xs, ∃ e ∈ es, x.born = e.2.2 ∧ e.1.den ρ = some x.key ∧ e.2.1.den ρ = some x.val
  | [], xs, h, x, hx => by cases h; cases hx
  | (a, b, n) :: r, xs, h, x, hx => by
    simp only [esDen] at h
    split at h
    · rename_i y z l hy hz hl
      cases h
      rcases List.mem_cons.1 hx with rfl | hx
      · exact ⟨(a, b, n), List.mem_cons_self, rfl, hy, hz⟩
      · obtain ⟨e, h1, h2⟩ := esDen_mem hl x hx
        exact ⟨e, List.mem_cons_of_mem _ h1, h2⟩
    · cases h
theorem hkNextK_ok {P : Program} {β : Base} : HookOk P β hkNextK := by
  intro o ev H nl cs ls ρ w f h he hh hc _
  unfold hkNextK at h
  split at h
  rotate_left
  · cases h
  rename_i xo ho
  split at h
  rotate_left
  · cases h
  rename_i r hx
  split at h
  rotate_left
  · cases h
  rename_i l since seen last hgr
  split at h
  rotate_left
  · cases h
  rename_i es cl rw hgl
  obtain ⟨br, hfx, hbr⟩ := den_ptr0 (he xo _ hx)
  obtain ⟨b, hb, hor⟩ := hh.iter hgr hbr
  obtain ⟨xs, hg, hes⟩ := hh.map hgl hb
  cases hq : (es.all (fun e => Nat.blt e.2.2 since) && Nat.ble since last) with
  | false => rw [hq] at h; cases h
  | true =>
    rw [hq] at h
    simp only [cond_true] at h
    simp only [Bool.and_eq_true] at hq
    obtain ⟨hq1, hq2⟩ := hq
    have hold : ∀ x ∈ xs, x.born < since := fun x hx => by
      obtain ⟨e, h1, h2, _⟩ := esDen_mem hes x hx
      have := List.all_eq_true.1 hq1 e h1
      rw [h2]
      simpa [Nat.blt_eq] using this
    have hlf := esDen_filter (fun n => !seen.contains n) hes
    have hleft : (Go.leftOf xs.toArray seen.toArray).toList = xs.filter fun e => !seen.contains e.born := by
      unfold Go.leftOf; simp
    have hrn := run_next_at (P := P) w o.type br b since last seen.toArray xs.toArray cl hor hg (by simpa using hold) (Nat.le_of_ble_eq_true hq2)
    rcases hrn with ⟨h0, hrun⟩ | ⟨e, hel, w1, hw1, hrun⟩
    · have h0' : xs.filter (fun e => !seen.contains e.born) = [] := by
        rw [← hleft]; exact List.eq_nil_of_length_eq_zero (by rw [Array.length_toList]; exact h0)
      have hL : Vm.leftOf es seen = [] := by
        have := (esDen_len hlf).1
        rw [h0'] at this
        exact List.eq_nil_of_length_eq_zero this.symm
      rw [hL] at h
      cases h
      have hrun' : (Instr.next (f xo) false o.type).run P w = .ok (.tuple #[.bool false]) w := by rw [hfx]; exact hrun
      exact ⟨.tuple #[.bool false], w, .inl (by simp [execOp, ho, hrun']), _, _, _, _, ρ, List.mem_cons_self, Env.Le.refl ρ, rfl, hh, hc⟩
    · rw [hleft] at hel
      obtain ⟨y, h1, h2, h3, h4⟩ := esDen_mem hlf e hel
      have hy : y ∈ Vm.leftOf es seen := h1
      have hmem : nxK r l since cl seen H nl cs y ∈ ls := by
        split at h
        · rename_i hL; rw [hL] at hy; cases hy
        · rename_i e' L hL
          cases h
          exact List.mem_map.2 ⟨y, by rw [← hL]; exact hy, rfl⟩
      have hrun' : (Instr.next (f xo) false o.type).run P w = .ok (.tuple #[.bool true, e.key, e.val]) (ChangeMaps.setBlock w1 br (.mapIter (some b) since (seen.toArray.push e.born) cl)) := by rw [hfx]; exact hrun
      have hh1 : HRel β ρ H nl w1 := by
        rcases hw1 with rfl | rfl
        · exact hh
        · exact hh.drew
      have hW := hh1.write (w' := ChangeMaps.setBlock w1 br (.mapIter (some b) since (seen.toArray.push e.born) cl)) (o' := .mapIter (some b) since (seen.toArray.push e.born) cl) (k' := ⟨.iter l since (seen ++ [y.2.2]) cl, true⟩) hgr rfl hbr ⟨b, hb, by rw [h2]; simp⟩ rfl rfl rfl rfl
      refine ⟨.tuple #[.bool true, e.key, e.val], _, .inl (by simp [execOp, ho, hrun']), _, _, _, _, ρ, hmem, Env.Le.refl ρ, ?_, hW, hc⟩
      simp only [AVal.den, AVal.denL, BT.den, h3, h4, Option.map_some]
end Go.Vm
end

/-
  A machine for abstract states over the model (part 45): two arrays of known words are compared.
-/
section
namespace Go.Vm

section
variable {P : Program} (w : World)
theorem run_equalIn_lits (d : Nat) (t e : TypeId) (n : Nat) (ht : P.underlying t = some (.array n e)) (he : P.underlying e = some (.int .u64)) (hsz : ∀ w, (sizeOf e).run P w = .ok 1 w) (xs ys : List Int) (hx : xs.length = n) (hy : ys.length = n) :
    (Op.equalIn (d + 2) t (.agg (xs.map (Value.int .u64)).toArray) (.agg (ys.map (Value.int .u64)).toArray)).run P w = .ok ((List.range' 0 n 1).all fun i => xs.getD i 0 == ys.getD i 0) w := by
  rw [Op.equalIn]
  simp only [Sem.run_bind, run_underlying ht, Result.andThen_ok, hsz, Std.Legacy.Range.forIn_eq_forIn_range', Std.Legacy.Range.size, Nat.sub_zero, Nat.add_sub_cancel, Nat.div_one]
  have hl : ∀ i ∈ List.range' 0 n 1, i < n := fun i hi => by simpa using (List.mem_range'_1.1 hi).2
  generalize List.range' 0 n 1 = l at hl ⊢
  induction l with
  | nil => simp
  | cons i l ih =>
    have hi : i < n := hl i (by simp)
    have px : ∀ zs : List Int, zs.length = n → (part e (zs.map (Value.int .u64)).toArray (i * 1)).run P w = .ok (.int .u64 (zs.getD i 0)) w := fun zs hz => by
      simp [part, isAgg, run_underlying he, List.getD, List.getElem?_eq_getElem (show i < zs.length by omega)]
    have pe : (Op.equalIn (d + 1) e (.int .u64 (xs.getD i 0)) (.int .u64 (ys.getD i 0))).run P w = .ok (xs.getD i 0 == ys.getD i 0) w := by
      rw [run_equalIn_int w d e .u64 .u64 _ _ he]
    simp only [List.forIn_cons, Sem.run_bind, px xs hx, px ys hy, pe, Result.andThen_ok, List.all_cons]
    cases hb : (xs.getD i 0 == ys.getD i 0) with
    | true =>
      simp only [Bool.not_true, Bool.false_eq_true, if_false, Sem.run_pure, Result.andThen_ok, Bool.true_and]
      exact ih fun j hj => hl j (by simp [hj])
    | false =>
      simp
end
def litsU : List AVal → Option (List Int)
  | [] => some []
  | .int .u64 (.lit a) :: r => (litsU r).map (a :: ·)
  | _ => none
theorem litsU_den {ρ : Env} : ∀ {l : List AVal} {L : List Int}, litsU l = some L → AVal.denL ρ l = some (L.map (Value.int .u64))
  | [], L, h => by cases h; rfl
  | a :: l, L, h => by
    unfold litsU at h
    split at h
    · rename_i e; cases e
    · rename_i z r e
      cases e
      obtain ⟨M, hM, rfl⟩ := Option.map_eq_some_iff.1 h
      simp only [AVal.denL, litsU_den hM, AVal.den, IT.den, Option.map_some, List.map_cons]
    · cases h
def allEq (n : Nat) (xs ys : List Int) : Bool := (List.range' 0 n 1).all fun i => xs.getD i 0 == ys.getD i 0
def hkEqL (t n : Nat) : OpF := fun o ev H nl cs => match o with
  | .binOp .eql t' x y _ => cond (Nat.beq t' t) (match ev x, ev y with
    | some (.agg xs), some (.agg ys) => match litsU xs, litsU ys with
      | some L, some M => cond (Nat.beq L.length n && Nat.beq M.length n) (some [.ret (.bool (.lit (allEq n L M))) H nl cs]) none
      | _, _ => none
    | _, _ => none) none
  | _ => none
theorem hkEqL_ok {P : Program} {β : Base} {t e : TypeId} {n : Nat} (ht : P.underlying t = some (.array n e)) (he : P.underlying e = some (.int .u64)) (hi : (P.info? e).map (·.size) = some 1) (hg : P.eqGuardType P.depth t = false) : HookOk P β (hkEqL t n) := by
  intro o ev H nl cs ls ρ w f h hev hh hc _
  unfold hkEqL at h
  split at h
  rotate_left
  · cases h
  rename_i t' x y gg ho
  cases hb : Nat.beq t' t with
  | false => rw [hb] at h; cases h
  | true =>
    rw [hb] at h; simp only [cond_true] at h
    obtain rfl := Nat.eq_of_beq_eq_true hb
    split at h
    rotate_left
    · cases h
    rename_i xs ys hx hy
    split at h
    rotate_left
    · cases h
    rename_i L M hL hM
    cases hb : (Nat.beq L.length n && Nat.beq M.length n) with
    | false => rw [hb] at h; cases h
    | true =>
      rw [hb] at h; simp only [cond_true, Option.some.injEq] at h
      subst h
      simp only [Bool.and_eq_true] at hb
      have hn := Nat.eq_of_beq_eq_true hb.1
      have hm := Nat.eq_of_beq_eq_true hb.2
      have d1 := hev x _ hx
      have d2 := hev y _ hy
      simp only [AVal.den, litsU_den hL, litsU_den hM, Option.map_some, Option.some.injEq] at d1 d2
      obtain ⟨i, hi1, hi2⟩ := Option.map_eq_some_iff.1 hi
      have hsz : ∀ w, (sizeOf e).run P w = .ok 1 w := fun w => by rw [run_size hi1, hi2]
      have hrun := run_equalIn_lits (P := P) w 9998 t' e n ht he hsz L M hn hm
      refine ⟨.bool (allEq n L M), w, .inl ?_, _, _, _, _, ρ, List.mem_cons_self, Env.Le.refl ρ, rfl, hh, hc⟩
      have hq : (do eqGuard .eql t' x y (f x) (f y); binOp .eql t' (f x) (f y) : Sem Value).run P w = .ok (.bool (allEq n L M)) w := by
        rw [← d1, ← d2]
        simp only [Sem.run_bind, run_eqGuard_agg w _ _ _ _ _ _ hg, Result.andThen_ok, run_eql_struct, hrun]
        rfl
      simp only [execOp, ho, Sem.run_bind, Sem.run_pure] at hq ⊢
      rw [hq]; rfl
/-- One, or else the other. -/
def orH (a b : OpF) : OpF := fun o ev H nl cs => match a o ev H nl cs with
  | some ls => some ls
  | none => b o ev H nl cs
theorem orH_ok {P : Program} {β : Base} {a b : OpF} (ha : HookOk P β a) (hb : HookOk P β b) : HookOk P β (orH a b) := by
  intro o ev H nl cs ls ρ w f h he hh hc hd
  unfold orH at h
  split at h
  · rename_i l hl; cases h; exact ha o ev H nl cs _ ρ w f hl he hh hc hd
  · exact hb o ev H nl cs _ ρ w f h he hh hc hd
end Go.Vm
end
