/-
  Trace lines (9): the law's loop; the law of values.
-/
import Derived.Test.YtjjijagclgambaaGreatDoorTl8
namespace Go.Proofs.YtjjijagclgambaaGreatDoor
open Go.Vm Go.TraceP
namespace Txt

structure JF (s : ByteArray) (i : Nat) (ρ : Env) : Prop where
  i9 : ρ.I 9 = (i : Int)
  le : i ≤ s.size
  c : ∀ j, j < 7 → ρ.I (20 + j) = (cnt s i j : Int)
theorem JF.of_le {s : ByteArray} {i : Nat} {ρ ρ' : Env} (h : JF s i ρ) (hle : ρ.Le ρ') : JF s i ρ' := ⟨by rw [hle.i]; exact h.i9, h.le, fun j hj => by rw [hle.i]; exact h.c j hj⟩
theorem cnt_succ (s : ByteArray) {i : Nat} (h : i < s.size) (j : Nat) : cnt s (i + 1) j = cnt s i j + if s.data.toList.getD i 0 = lets.getD j 0 then 1 else 0 := by
  unfold cnt
  rw [List.take_add_one, at_i s h, List.count_append]
  show _ + List.count _ [_] = _
  rw [List.count_singleton]
  congr 1
  by_cases e : s.data.toList.getD i 0 = lets.getD j 0
  · rw [if_pos e, if_pos (by simpa using e)]
  · rw [if_neg e, if_neg (by simpa using e)]
theorem cnt_le (s : ByteArray) (i j : Nat) : cnt s i j ≤ i := by
  unfold cnt
  have := List.count_le_length (a := lets.getD j 0) (l := s.data.toList.take i)
  rw [List.length_take] at this
  omega
theorem lets_nodup : ∀ a, a < 7 → ∀ b, b < 7 → lets.getD a 0 = lets.getD b 0 → a = b := by decide
section
variable {d : Dw} {k : Nat} {ρ : Env}
theorem wKeep {σ : Sub} (hI : ∀ i, 30 ≤ i → lk σ.I i = none) (hS : σ.S = []) (hV : (σ.app ρ).V 0 = ρ.V 0) (hG : (GW d).at ρ) : (GW d).at (σ.app ρ) := by
  obtain ⟨⟨h31, h32⟩, ⟨h35, h36, hv⟩, hc⟩ := hG
  have eI : ∀ i, 30 ≤ i → (σ.app ρ).I i = ρ.I i := fun i hi => by simp only [Sub.app, hI i hi]
  have eS : ∀ i, lk σ.S i = none := fun i => by rw [hS]; exact lk_nil i
  refine ⟨⟨(app_S (eS 31)).trans h31, (app_S (eS 32)).trans h32⟩, ⟨(eI 35 (by omega)).trans h35, (eI 36 (by omega)).trans h36, hV.trans hv⟩, fun j hj => (eI _ (by omega)).trans (hc j hj)⟩
theorem lk_map {f : Nat → Nat × IT} (hf : ∀ i, (f i).1 = 20 + i) : ∀ (L : List Nat) (i : Nat), (∀ x ∈ L, 20 + x ≠ i) → lk (L.map f) i = none
  | [], i, _ => lk_nil i
  | a :: L, i, h => by
    have e : (a :: L).map f = ((f a).1, (f a).2) :: L.map f := rfl
    rw [e, lk_cons, if_neg (by rw [hf a]; have := h a List.mem_cons_self; omega)]
    exact lk_map hf L i fun x hx => h x (List.mem_cons_of_mem _ hx)
theorem lenS_den (hG : (GW d).at ρ) : lenS.den ρ = some (d.s.size : Int) := by
  have : ρ.S 31 = d.s := hG.1.1
  simp only [lenS, IT.den, ST.den, this]
theorem JF.cs {i : Nat} (j : JF d.s i ρ) (ok : DwOk d k) (hG : (GW d).at ρ) : CRel ρ (TF k).cs := by
  have hl := lenS_den hG
  have hs := ok.s5
  have hi := j.le
  exact qD (show at9.den ρ = _ from varD j.i9) (litD 0) (by simp [intCmp]) (qD (show at9.den ρ = _ from varD j.i9) hl (by simp [intCmp]; omega) (qD hl (litD 500) (by simp [intCmp]; omega) c0))
theorem ltF_ok {i : Nat} {b : Bool} (j : JF d.s i ρ) (hG : (GW d).at ρ) (h : decide (i < d.s.size) = b) : CRel ρ (ltF b) :=
  qD (show at9.den ρ = _ from varD j.i9) (lenS_den hG) (by
    simp only [intCmp, Option.some.injEq]
    rw [← h, decide_eq_decide]; omega) c0
theorem bT_den {i : Nat} (j : JF d.s i ρ) (hG : (GW d).at ρ) : bT.den ρ = some (((d.s.data.toList.getD i 0).toNat : Nat) : Int) := by
  have h31 : ρ.S 31 = d.s := hG.1.1
  have h9 := j.i9
  simp only [bT, IT.den, ST.den, h31, h9]
  rw [un0_byte]
theorem way_ok {i w : Nat} (j : JF d.s i ρ) (hG : (GW d).at ρ) (hw : ∀ a, a < 7 → (d.s.data.toList.getD i 0 = lets.getD a 0 ↔ a = w)) : CRel ρ (way w) := by
  intro p hp
  obtain ⟨a, ha, rfl⟩ := List.mem_map.1 hp
  have ha := List.mem_range.1 ha
  show (BT.cmp .eql bT (.lit _)).den ρ = some (Nat.beq a w)
  rw [cmpD (bT_den j hG) (litD _)]
  simp only [intCmp, Option.some.injEq]
  rw [Bool.eq_iff_iff, beq_iff_eq, Nat.beq_eq]
  have h1 := hw a ha
  constructor
  · intro h
    exact h1.1 (UInt8.toNat_inj.1 (Int.ofNat.inj h))
  · intro h
    rw [h1.2 h]
theorem JF.next {i w : Nat} (j : JF d.s i ρ) (hi : i < d.s.size) (hs : d.s.size ≤ 500) (hw : ∀ a, a < 7 → (d.s.data.toList.getD i 0 = lets.getD a 0 ↔ a = w)) : JF d.s (i + 1) ((sF k w).app ρ) := by
  refine ⟨sbI (t := up9) rfl (upD (varD j.i9) (by omega)), hi, fun a ha => ?_⟩
  have hl : lk (sF k w).I (20 + a) = some (cond (Nat.beq a w) (.bin .add .i64 (.var (20 + a)) (.lit 1)) (.var (20 + a))) := by
    match a, ha with
    | 0, _ => rfl
    | 1, _ => rfl
    | 2, _ => rfl
    | 3, _ => rfl
    | 4, _ => rfl
    | 5, _ => rfl
    | 6, _ => rfl
  have hc := cnt_le d.s i a
  refine sbI hl ?_
  rw [cnt_succ d.s hi]
  cases hb : Nat.beq a w with
  | true =>
    rw [cond_true, if_pos ((hw a ha).2 (Nat.eq_of_beq_eq_true hb))]
    exact upD (varD (j.c a ha)) (by omega)
  | false =>
    rw [cond_false, if_neg fun e => by
      have := (hw a ha).1 e
      subst this
      rw [Nat.beq_refl] at hb; cases hb]
    exact varD (j.c a ha)
theorem w3 (hk : k < 3) : ∀ w, w < 8 → RHp (sp3 k) 3 Tryz.f3 0 [TF k] (TF k) (ltF true ++ way w) [.next 0 (.inLoop (lb Tryz.f3 0) :: lq Tryz.f3 0) [] (sF k w)]
  | 0, _ => w3_0 k hk
  | 1, _ => w3_1 k hk
  | 2, _ => w3_2 k hk
  | 3, _ => w3_3 k hk
  | 4, _ => w3_4 k hk
  | 5, _ => w3_5 k hk
  | 6, _ => w3_6 k hk
  | 7, _ => w3_7 k hk
theorem find_way (c : UInt8) : ∃ w, w < 8 ∧ ∀ a, a < 7 → (c = lets.getD a 0 ↔ a = w) := by
  by_cases h : ∃ a, a < 7 ∧ c = lets.getD a 0
  · obtain ⟨w, hw, rfl⟩ := h
    exact ⟨w, by omega, fun a ha => ⟨fun e => (lets_nodup w hw a ha e).symm, fun e => by rw [e]⟩⟩
  · exact ⟨7, by omega, fun a ha => ⟨fun e => absurd ⟨a, ha, e⟩ h, fun e => by omega⟩⟩
def QT (v : Value) : Prop := v = .bool true
theorem loop3 {w : World} (ok : DwOk d k) (hsp : CallOk Tryz.prog ⟨w, [], GW d⟩ (sp3 k)) : ∀ (_ : Unit) ρ, (∃ i, JF d.s i ρ) → ∀ todo a w1, todo = .inLoop (lb Tryz.f3 0) :: lq Tryz.f3 0 ∨ todo = .code (.loop (lb Tryz.f3 0)) :: lq Tryz.f3 0 → SRel ⟨w, [], GW d⟩ ρ ((TF k).st todo) a w1 → Goes Tryz.prog 3 (fun x w' => QT x ∧ Framed w w') todo a w1 :=
  scanP (β := ⟨w, [], GW d⟩) (sp := sp3 k) (f := 3) (fn := Tryz.f3) (j := 0) (Ts := [TF k]) (T := fun (_ : Unit) => TF k) hsp rfl (Q := QT) (fun _ ρ => ∃ i, JF d.s i ρ) (fun _ ρ => ((d.s.size : Int) - ρ.I 9).toNat) fun _ ρ ⟨i, j⟩ hG hcs ih => by
    have hi := j.le
    have hs := ok.s5
    by_cases hlt : i < d.s.size
    · obtain ⟨x, hx, hw⟩ := find_way (d.s.data.toList.getD i 0)
      refine ⟨_, _, CRel_app.2 ⟨ltF_ok j hG (decide_eq_true hlt), way_ok j hG hw⟩, w3 ok.k3 x hx, Go.Vm.one (nextS rfl fun ρ' hle hG' => ?_)⟩
      have j' := j.of_le hle
      have jn : JF d.s (i + 1) ((sF k x).app ρ') := j'.next hlt hs hw
      have hGn : (GW d).at ((sF k x).app ρ') := wKeep (fun m hm => by
        show lk ((9, up9) :: (List.range 7).map (upK x)) m = none
        rw [lk_cons, if_neg (by omega), lk_map (fun _ => rfl) _ _ fun y hy => by have := List.mem_range.1 hy; omega]) rfl rfl hG'
      exact ⟨hGn, jn.cs ok hGn, fun a w' r => ih () _ (by rw [jn.i9, j.i9]; omega) ⟨_, jn⟩ _ a w' (.inl rfl) r⟩
    · obtain rfl : i = d.s.size := by omega
      have hI := hG.2.2
      have e4 : ∀ m, m < 7 → (IT.var (40 + m)).den ρ = some (cnt d.s d.s.size m : Int) := fun m hm => varD (hI m hm)
      have e2 : ∀ m, m < 7 → (IT.var (20 + m)).den ρ = some (cnt d.s d.s.size m : Int) := fun m hm => varD (j.c m hm)
      have q : ∀ m, m < 7 → (BT.cmp .eql (.var (40 + m)) (.var (20 + m))).den ρ = some true := fun m hm => by
        rw [cmpD (e4 m hm) (e2 m hm)]
        simp [intCmp]
      have q4 : (BT.cmp .eql (.bin .add .i64 (.var 44) (.var 45)) (.bin .add .i64 (.var 24) (.var 25))).den ρ = some true := by
        rw [cmpD (binD (e4 4 (by omega)) (e4 5 (by omega))) (binD (e2 4 (by omega)) (e2 5 (by omega)))]
        simp [intCmp]
      refine ⟨_, _, CRel_app.2 ⟨ltF_ok j hG (decide_eq_false hlt), c1 (q 0 (by omega)) (c1 (q 1 (by omega)) (c1 (q 2 (by omega)) (c1 (q 3 (by omega)) (c1 q4 (c1 (q 6 (by omega)) c0)))))⟩, end3 k ok.k3, Go.Vm.one (retS (z := .bool true) (fun ρ' hle => rfl) rfl)⟩
end
end Txt
end Go.Proofs.YtjjijagclgambaaGreatDoor
