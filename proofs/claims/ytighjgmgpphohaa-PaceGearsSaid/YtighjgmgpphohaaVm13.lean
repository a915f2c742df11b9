/-
  A machine for abstract states over the model (part 13): alike values; regions whose order is drawn.
-/
import Derived.Test.YtighjgmgpphohaaVm12
namespace Go.Vm

-- ALIKE
mutual
def AVal.beq : AVal → AVal → Bool
  | .bool a, .bool b => BT.beq a b
  | .int k a, .int k' b => decide (k = k') && IT.beq a b
  | .str a, .str b => ST.beq a b
  | .ptrNil, .ptrNil | .sliceNil, .sliceNil | .mapNil, .mapNil | .nilFunc, .nilFunc | .nilIface, .nilIface => true
  | .ptr l o, .ptr l' o' => Nat.beq l l' && IT.beq o o'
  | .slice l a b c, .slice l' a' b' c' => Nat.beq l l' && IT.beq a a' && IT.beq b b' && IT.beq c c'
  | .map l, .map l' => Nat.beq l l'
  | .func f a b, .func f' a' b' => decide (f = f') && AVal.beqL a a' && AVal.beqL b b'
  | .iface t v, .iface t' v' => Nat.beq t t' && AVal.beq v v'
  | .agg a, .agg b => AVal.beqL a b
  | .tuple a, .tuple b => AVal.beqL a b
  | .var i, .var j => Nat.beq i j
  | _, _ => false
def AVal.beqL : List AVal → List AVal → Bool
  | [], [] => true
  | a :: r, b :: s => AVal.beq a b && AVal.beqL r s
  | _, _ => false
end
mutual
theorem AVal.beq_eq : ∀ (a b : AVal), AVal.beq a b = true → a = b
  | .bool a, b, h => by cases b <;> simp [AVal.beq] at h; rw [BT.beq_eq h]
  | .int k a, b, h => by cases b <;> simp [AVal.beq] at h; rw [h.1, IT.beq_eq h.2]
  | .str a, b, h => by cases b <;> simp [AVal.beq] at h; rw [ST.beq_eq h]
  | .ptrNil, b, h => by cases b <;> first | rfl | simp [AVal.beq] at h
  | .sliceNil, b, h => by cases b <;> first | rfl | simp [AVal.beq] at h
  | .mapNil, b, h => by cases b <;> first | rfl | simp [AVal.beq] at h
  | .nilFunc, b, h => by cases b <;> first | rfl | simp [AVal.beq] at h
  | .nilIface, b, h => by cases b <;> first | rfl | simp [AVal.beq] at h
  | .ptr l o, b, h => by cases b <;> simp [AVal.beq] at h; rw [h.1, IT.beq_eq h.2]
  | .slice l x y z, b, h => by
    cases b <;> simp [AVal.beq] at h
    rw [h.1.1.1, IT.beq_eq h.1.1.2, IT.beq_eq h.1.2, IT.beq_eq h.2]
  | .map l, b, h => by cases b <;> simp [AVal.beq] at h; rw [h]
  | .func f x y, b, h => by
    cases b <;> simp [AVal.beq] at h
    rw [h.1.1, AVal.beqL_eq _ _ h.1.2, AVal.beqL_eq _ _ h.2]
  | .iface t v, b, h => by cases b <;> simp [AVal.beq] at h; rw [h.1, AVal.beq_eq _ _ h.2]
  | .agg l, b, h => by cases b <;> simp [AVal.beq] at h; rw [AVal.beqL_eq _ _ h]
  | .tuple l, b, h => by cases b <;> simp [AVal.beq] at h; rw [AVal.beqL_eq _ _ h]
  | .var i, b, h => by cases b <;> simp [AVal.beq] at h; rw [h]
theorem AVal.beqL_eq : ∀ (a b : List AVal), AVal.beqL a b = true → a = b
  | [], [], _ => rfl
  | [], _ :: _, h => by simp [AVal.beqL] at h
  | _ :: _, [], h => by simp [AVal.beqL] at h
  | a :: r, b :: s, h => by
    simp [AVal.beqL] at h
    rw [AVal.beq_eq _ _ h.1, AVal.beqL_eq _ _ h.2]
end

-- ANY ORDER
section
variable {P : Program} {ops : Array Oper} {md : Region.Mode}

def OpG (P : Program) (ops : Array Oper) (i : Nat) (K : Act → World → Prop) (a : Act) (w : World) : Prop :=
  match ops[i]? with
  | none => K a w
  | some o => if Region.wanted o (yielded ops a.tmps) then
      (∃ v w', (execOp a.eval o).run P w = .ok (.value v) w' ∧ K (a.put o.dst v) w') ∨
      (∃ w', (execOp a.eval o).run P w = .ok .skip w' ∧ K (a.put o.dst undef) w') ∨
      (∃ g args w', (execOp a.eval o).run P w = .ok (.enter g args) w' ∧ Calls P g args w' fun e w2 => ∃ v, e = .returned v ∧ K (a.put o.dst v) w2)
    else K (a.put o.dst undef) w
theorem OpG.mono {i : Nat} {K K' : Act → World → Prop} {a : Act} {w : World} (h : ∀ a w, K a w → K' a w) (g : OpG P ops i K a w) : OpG P ops i K' a w := by
  unfold OpG at *
  split
  · rename_i ho; rw [ho] at g; exact h _ _ g
  · rename_i o ho
    simp only [ho] at g
    split
    · rename_i hw
      rw [if_pos hw] at g
      rcases g with ⟨v, w', r, k⟩ | ⟨w', r, k⟩ | ⟨gf, args, w', r, c⟩
      · exact .inl ⟨v, w', r, h _ _ k⟩
      · exact .inr (.inl ⟨w', r, h _ _ k⟩)
      · exact .inr (.inr ⟨gf, args, w', r, c.mono fun e w2 ⟨v, hv, k⟩ => ⟨v, hv, h _ _ k⟩⟩)
    · rename_i hw
      rw [if_neg hw] at g
      exact h _ _ g
theorem OpG.wp {i : Nat} {K : Act → World → Prop} {a : Act} {w : World} {Q : Exit → Act → World → Prop} (g : OpG P ops i K a w) : wpOp P ops Q i K a w := by
  unfold OpG at g
  unfold wpOp
  split
  · rename_i ho; rw [ho] at g; exact g
  · rename_i o ho
    simp only [ho] at g
    split
    · rename_i hw
      rw [if_pos hw] at g
      refine .inl ?_
      rcases g with ⟨v, w', r, k⟩ | ⟨w', r, k⟩ | ⟨gf, args, w', r, c⟩
      · simp only [Oper.wp, r, Oper.upon]; exact k
      · simp only [Oper.wp, r, Oper.upon]; exact k
      · simp only [Oper.wp, r, Oper.upon]
        exact c.mono fun e w2 ⟨v, hv, k⟩ => by subst hv; exact k
    · rename_i hw
      rw [if_neg hw] at g
      exact g

def AnyG (P : Program) (md : Region.Mode) (ops : Array Oper) (Q : Act → World → Prop) (C : Array Bool → World → Prop) : Nat → Array Bool → Act → World → Prop
  | 0, listed, a, w => Region.ready md ops listed = [] ∧ Q a w
  | fuel + 1, listed, a, w => (Region.ready md ops listed = [] → Q a w) ∧
    ∀ i ∈ Region.ready md ops listed, OpG P ops i (fun a' w' => C (listed.setIfInBounds i true) w' ∧ AnyG P md ops Q C fuel (listed.setIfInBounds i true) a' w') a w
theorem AnyG.wp {Q : Act → World → Prop} {C : Array Bool → World → Prop} : ∀ (n : Nat) (listed : Array Bool) (a : Act) (w : World), AnyG P md ops Q C n listed a w →
    wpAny P md ops (fun e a w => e = .normal ∧ Q a w) n listed a w
  | 0, _, _, _, h => ⟨h.1, rfl, h.2⟩
  | n + 1, _, _, _, h => ⟨fun e => ⟨rfl, h.1 e⟩, fun i hi => (OpG.mono (fun a' w' g => AnyG.wp n _ a' w' g.2) (h.2 i hi)).wp⟩
theorem AnyG.weaken {Q : Act → World → Prop} {C C' : Array Bool → World → Prop} (hC : ∀ L w, C' L w → C L w) : ∀ (n : Nat) (listed : Array Bool) (a : Act) (w : World), AnyG P md ops Q C' n listed a w → AnyG P md ops Q C n listed a w
  | 0, _, _, _, h => h
  | n + 1, _, _, _, h => ⟨h.1, fun i hi => OpG.mono (fun a' w' g => ⟨hC _ _ g.1, AnyG.weaken hC n _ a' w' g.2⟩) (h.2 i hi)⟩

def YC (P : Program) (ops : Array Oper) (C : World → Prop) (o : Oper) (v : Value) (a : Act) : Prop :=
  (Region.wanted o (yielded ops a.tmps) = true ∧ ∀ w, C w → (execOp a.eval o).run P w = .ok (.value v) w) ∨ (Region.wanted o (yielded ops a.tmps) = false ∧ v = undef)
theorem YC.op {C : World → Prop} {i : Nat} {o : Oper} {v : Value} {a : Act} {w : World} (hi : ops[i]? = some o) (hy : YC P ops C o v a) (hw : C w) {K : Act → World → Prop} (h : K (a.put o.dst v) w) : OpG P ops i K a w := by
  unfold OpG
  simp only [hi]
  rcases hy with ⟨h1, h2⟩ | ⟨h1, rfl⟩
  · rw [if_pos h1]; exact .inl ⟨v, w, h2 w hw, h⟩
  · rw [if_neg (by simp [h1])]; exact h
theorem YC.same {C : World → Prop} {o oj : Oper} {v u : Value} {a : Act} (hs : ∀ cs b, o.op ≠ .select cs b) (hap : o.apart ops oj = true) (hy : YC P ops C o v a) : YC P ops C o v (a.put oj.dst u) := by
  obtain ⟨_, _, h3⟩ := Oper.apart_spec hap
  unfold YC at *
  rw [execOp_put (ops := ops) o hs a oj.dst u h3, wanted_put (ops := ops) o a oj.dst u h3]
  exact hy
theorem OpG.put {C : World → Prop} {j : Nat} {oi oj : Oper} {v : Value} (hj : ops[j]? = some oj) (hap : oi.apart ops oj = true) (hsi : ∀ cs b, oi.op ≠ .select cs b) (hsj : ∀ cs b, oj.op ≠ .select cs b)
    {K : Act → World → Prop} {a : Act} {w : World} (hy : YC P ops C oi v a) (h : OpG P ops j K (a.put oi.dst v) w) : OpG P ops j (fun a' w' => K (a'.put oi.dst v) w' ∧ YC P ops C oi v a') a w := by
  obtain ⟨h1, h2, h3⟩ := Oper.apart_spec hap
  have comm : ∀ u, ((a.put oi.dst v).put oj.dst u) = ((a.put oj.dst u).put oi.dst v) := fun u => Act.put_comm a v u h2
  unfold OpG at *
  simp only [hj] at h ⊢
  rw [execOp_put (ops := ops) oj hsj a oi.dst v h1, wanted_put (ops := ops) oj a oi.dst v h1] at h
  split
  · rename_i hw
    rw [if_pos hw] at h
    rcases h with ⟨u, w', r, k⟩ | ⟨w', r, k⟩ | ⟨gf, args, w', r, c⟩
    · exact .inl ⟨u, w', r, by rw [← comm]; exact k, hy.same hsi hap⟩
    · exact .inr (.inl ⟨w', r, by rw [← comm]; exact k, hy.same hsi hap⟩)
    · exact .inr (.inr ⟨gf, args, w', r, c.mono fun e w2 ⟨u, hu, k⟩ => ⟨u, hu, by rw [← comm]; exact k, hy.same hsi hap⟩⟩)
  · rename_i hw
    rw [if_neg hw] at h
    exact ⟨by rw [← comm]; exact h, hy.same hsi hap⟩

/-- An operation that answers the same in every world that can come ahead of it may come first. -/
theorem AnyG.first {Q : Act → World → Prop} {C C' : Array Bool → World → Prop} {F : World → Prop} (hC : ∀ L w, C' L w → C L w) {i : Nat} {oi : Oper} {v : Value} {D : List Nat} (hi : ops[i]? = some oi) (hsel : ∀ (j : Nat) (o : Oper) cs b, ops[j]? = some o → o.op ≠ .select cs b)
    (hCi : ∀ L w, C (L.setIfInBounds i true) w → C L w) (hF : ∀ L w, (∀ d ∈ D, L.getD d false = false) → C' L w → F w) (hiD : i ∉ D)
    (hD : ∀ d ∈ D, ∀ o, ops[d]? = some o → ∃ e ∈ o.after, Region.binds md e = true ∧ (e.on = i ∨ e.on ∈ D)) :
    ∀ (fuel : Nat) (listed : Array Bool) (a : Act) (w : World),
      (∀ j oj, ops[j]? = some oj → j ≠ i → listed.getD j true = false → (∀ e ∈ oj.after, Region.binds md e = true → e.on ≠ i) → oi.apart ops oj = true) →
      i ∈ Region.ready md ops listed → (∀ d ∈ D, listed.getD d false = false) → YC P ops F oi v a → C' (listed.setIfInBounds i true) w →
      AnyG P md ops Q C' fuel (listed.setIfInBounds i true) (a.put oi.dst v) w → AnyG P md ops Q C (fuel + 1) listed a w := by
  intro fuel
  have own : ∀ (listed : Array Bool) w, (∀ d ∈ D, listed.getD d false = false) → C' (listed.setIfInBounds i true) w → F w := fun listed w hl h => hF _ w (fun d hd => by
    rw [getD_set_ne false (fun (e : i = d) => hiD (e ▸ hd))]; exact hl d hd) h
  induction fuel with
  | zero =>
    intro listed a w _ hr hl hy hw H
    refine ⟨fun h => (by rw [h] at hr; cases hr), fun j hj => ?_⟩
    by_cases hji : j = i
    · subst hji; exact hy.op hi (own _ _ hl hw) ⟨hC _ _ hw, AnyG.weaken hC 0 _ _ _ H⟩
    · have := ready_mono hj hji
      rw [H.1] at this
      cases this
  | succ fuel ih =>
    intro listed a w hfree hr hl hy hw H
    refine ⟨fun h => (by rw [h] at hr; cases hr), fun j hj => ?_⟩
    by_cases hji : j = i
    · subst hji; exact hy.op hi (own _ _ hl hw) ⟨hC _ _ hw, AnyG.weaken hC _ _ _ _ H⟩
    · have h1 := H.2 j (ready_mono hj hji)
      obtain ⟨hjun, oj, hoj, hall⟩ := mem_ready.1 hj
      have hnot : ∀ e ∈ oj.after, Region.binds md e = true → e.on ≠ i := fun e he hb heq => by
        have h1 := hall e he hb
        have h0 := (mem_ready.1 hr).1
        rw [heq] at h1
        rcases Nat.lt_or_ge i listed.size with h' | h'
        · simp [h'] at h0 h1; rw [h0] at h1; cases h1
        · simp [Array.getElem?_eq_none h'] at h1
      have hjD : j ∉ D := fun hjD => by
        obtain ⟨e, he, hb, heq | hm⟩ := hD j hjD oj hoj
        · exact hnot e he hb heq
        · have h1 := hall e he hb
          rw [hl _ hm] at h1; cases h1
      have h2 := OpG.put hoj (hfree j oj hoj hji hjun hnot) (fun cs b => hsel i oi cs b hi) (fun cs b => hsel j oj cs b hoj) hy h1
      have hfree' : ∀ k ok, ops[k]? = some ok → k ≠ i → (listed.setIfInBounds j true).getD k true = false →
          (∀ e ∈ ok.after, Region.binds md e = true → e.on ≠ i) → oi.apart ops ok = true := fun k ok hk hki hun hno => by
        refine hfree k ok hk hki ?_ hno
        by_cases hjk : j = k
        · subst hjk; exact hjun
        · rw [getD_set_ne true hjk] at hun; exact hun
      have hl' : ∀ d ∈ D, (listed.setIfInBounds j true).getD d false = false := fun d hd => by
        rw [getD_set_ne false (fun (e : j = d) => hjD (e ▸ hd))]; exact hl d hd
      refine OpG.mono (fun a' w' h3 => ?_) h2
      have h4 := h3.1.1
      rw [Array.setIfInBounds_comm _ _ (Ne.symm hji)] at h4
      refine ⟨hCi _ _ (hC _ _ h4), ih (listed.setIfInBounds j true) a' w' hfree' (ready_mono hr (Ne.symm hji)) hl' h3.2 h4 ?_⟩
      rw [Array.setIfInBounds_comm _ _ hji]
      exact h3.1.2
end

end Go.Vm
