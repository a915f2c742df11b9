/- Least (0): heaps of numbers as lists, plainly: one is put in, the least is taken out; which numbers are in use. -/
import Derived.Test.YtighjgmgpphohaaVm2
section
namespace Go.Vm
namespace Le
abbrev at0 (l : List Int) (i : Nat) : Int := l.getD i 0
def swapL (l : List Int) (i j : Nat) : List Int := (l.set i (at0 l j)).set j (at0 l i)
theorem swapL_length (l : List Int) (i j : Nat) : (swapL l i j).length = l.length := by simp [swapL]
theorem at0_set (l : List Int) (i k : Nat) (v : Int) (h : i < l.length) : at0 (l.set i v) k = if k = i then v else at0 l k := by
 unfold at0
 rw [List.getD_eq_getElem?_getD, List.getElem?_set]
 by_cases hk : i = k
 · subst hk; simp [h]
 · rw [if_neg hk, if_neg (fun e => hk e.symm), List.getD_eq_getElem?_getD]
theorem swap_at {l : List Int} {i j : Nat} (hi : i < l.length) (hj : j < l.length) (k : Nat) : at0 (swapL l i j) k = if k = j then at0 l i else if k = i then at0 l j else at0 l k := by
 unfold swapL
 rw [at0_set _ _ _ _ (by simpa using hj), at0_set _ _ _ _ hi]
theorem swap_perm {l : List Int} {i j : Nat} (hi : i < l.length) (hj : j < l.length) : (swapL l i j).Perm l := by
 have h := Array.swap_perm (xs := l.toArray) (i := i) (j := j) (by simpa using hi) (by simpa using hj)
 have e : (l.toArray.swap i j (by simpa using hi) (by simpa using hj)).toList = swapL l i j := by
  unfold swapL at0
  rw [Array.toList_swap]
  simp [List.getD_eq_getElem?_getD, List.getElem?_eq_getElem hi, List.getElem?_eq_getElem hj]
 have h2 := h.toList
 rw [e] at h2
 simpa using h2
def upL (l : List Int) (j : Nat) : List Int :=
 if h : j = 0 then l else if at0 l j < at0 l ((j - 1) / 2) then upL (swapL l ((j - 1) / 2) j) ((j - 1) / 2) else l
termination_by j
decreasing_by omega
theorem up_perm : ∀ (j : Nat) (l : List Int), j < l.length -> (upL l j).Perm l := by
 intro j
 induction j using Nat.strongRecOn with
 | _ j ih =>
  intro l hj
  rw [upL]
  split
  · exact List.Perm.refl l
  · split
    · have hi : (j - 1) / 2 < l.length := by omega
      exact (ih _ (by omega) _ (by rw [swapL_length]; exact hi)).trans (swap_perm hi hj)
    · exact List.Perm.refl l
def HeapOk (l : List Int) : Prop := ∀ i, 0 < i -> i < l.length -> at0 l ((i - 1) / 2) <= at0 l i
def UpInv (l : List Int) (j : Nat) : Prop := (∀ i, 0 < i -> i < l.length -> i ≠ j -> at0 l ((i - 1) / 2) <= at0 l i) /\ ∀ i, 0 < i -> i < l.length -> (i - 1) / 2 = j -> 0 < j -> at0 l ((j - 1) / 2) <= at0 l i
theorem up_heap : ∀ (j : Nat) (l : List Int), j < l.length -> UpInv l j -> HeapOk (upL l j) := by
 intro j
 induction j using Nat.strongRecOn with
 | _ j ih =>
  intro l hj ⟨h1, h2⟩
  rw [upL]
  split
  · rename_i h0
    intro i hi hl
    exact h1 i hi hl (by omega)
  · rename_i h0
    split
    · rename_i hlt
      have hi : (j - 1) / 2 < l.length := by omega
      have sw := swap_at (l := l) hi hj
      refine ih _ (by omega) _ (by rw [swapL_length]; exact hi) ⟨fun i p1 p2 p3 => ?_, fun i p1 p2 p3 p4 => ?_⟩
      · rw [swapL_length] at p2
        rw [sw, sw]
        by_cases e1 : i = j
        · subst e1
          rw [if_pos rfl, if_neg (show ¬ (i - 1) / 2 = i by omega), if_pos rfl]
          omega
        · rw [if_neg e1, if_neg p3]
          by_cases e2 : (i - 1) / 2 = j
          · rw [if_pos e2]
            exact h2 i p1 p2 e2 (by omega)
          · rw [if_neg e2]
            by_cases e3 : (i - 1) / 2 = (j - 1) / 2
            · rw [if_pos e3]
              have := h1 i p1 p2 e1
              rw [e3] at this
              omega
            · rw [if_neg e3]
              exact h1 i p1 p2 e1
      · rw [swapL_length] at p2
        rw [sw, sw]
        have hg : at0 l (((j - 1) / 2 - 1) / 2) <= at0 l ((j - 1) / 2) := h1 _ p4 hi (by omega)
        rw [if_neg (show ¬ ((j - 1) / 2 - 1) / 2 = j by omega), if_neg (show ¬ ((j - 1) / 2 - 1) / 2 = (j - 1) / 2 by omega)]
        by_cases e1 : i = j
        · rw [if_pos e1]; exact hg
        · rw [if_neg e1, if_neg (show ¬ i = (j - 1) / 2 by omega)]
          have := h1 i p1 p2 e1
          rw [p3] at this
          omega
    · rename_i hlt
      intro i hi hl
      by_cases e : i = j
      · subst e; omega
      · exact h1 i hi hl e
def kid (l : List Int) (i n : Nat) : Nat := if 2 * i + 2 < n /\ at0 l (2 * i + 2) < at0 l (2 * i + 1) then 2 * i + 2 else 2 * i + 1
theorem kid_or (l : List Int) (i n : Nat) : kid l i n = 2 * i + 1 ∨ (kid l i n = 2 * i + 2 /\ 2 * i + 2 < n) := by
 unfold kid; split
 · rename_i h; exact .inr ⟨rfl, h.1⟩
 · exact .inl rfl
def downL (l : List Int) (i n : Nat) : List Int :=
 if h : n <= 2 * i + 1 then l else if at0 l (kid l i n) < at0 l i then downL (swapL l i (kid l i n)) (kid l i n) n else l
termination_by n - i
decreasing_by
 have := kid_or l i n
 omega
theorem down_same : ∀ (m i n : Nat) (l : List Int), n - i <= m -> n <= l.length -> (downL l i n).Perm l /\ ∀ k, n <= k -> at0 (downL l i n) k = at0 l k := by
 intro m
 induction m with
 | zero =>
  intro i n l hm hn
  rw [downL, dif_pos (by omega)]
  exact ⟨List.Perm.refl l, fun _ _ => rfl⟩
 | succ m ih =>
  intro i n l hm hn
  rw [downL]
  split
  · exact ⟨List.Perm.refl l, fun _ _ => rfl⟩
  · split
    · rename_i h0 hlt
      have hk := kid_or l i n
      generalize kid l i n = j at hk hlt
      have hi : i < l.length := by omega
      have hj : j < l.length := by omega
      obtain ⟨g1, g2⟩ := ih j n (swapL l i j) (by omega) (by rw [swapL_length]; exact hn)
      refine ⟨g1.trans (swap_perm hi hj), fun k hk2 => ?_⟩
      rw [g2 k hk2, swap_at hi hj, if_neg (by omega), if_neg (by omega)]
    · exact ⟨List.Perm.refl l, fun _ _ => rfl⟩
def HeapN (l : List Int) (n : Nat) : Prop := ∀ i, 0 < i -> i < n -> at0 l ((i - 1) / 2) <= at0 l i
def DownInv (l : List Int) (i n : Nat) : Prop := (∀ k, 0 < k -> k < n -> (k - 1) / 2 ≠ i -> at0 l ((k - 1) / 2) <= at0 l k) /\ ∀ k, 0 < k -> k < n -> (k - 1) / 2 = i -> 0 < i -> at0 l ((i - 1) / 2) <= at0 l k
theorem down_heap : ∀ (m i n : Nat) (l : List Int), n - i <= m -> n <= l.length -> DownInv l i n -> HeapN (downL l i n) n := by
 intro m
 induction m with
 | zero =>
  intro i n l hm hn ⟨h1, _⟩
  rw [downL, dif_pos (by omega)]
  intro k hk hkn
  exact h1 k hk hkn (by omega)
 | succ m ih =>
  intro i n l hm hn ⟨h1, h2⟩
  rw [downL]
  split
  · intro k hk hkn
    exact h1 k hk hkn (by omega)
  · rename_i h0
    have hmin : ∀ k, 0 < k -> k < n -> (k - 1) / 2 = i -> at0 l (kid l i n) <= at0 l k := fun k p1 p2 p3 => by
     have hk : k = 2 * i + 1 ∨ k = 2 * i + 2 := by omega
     unfold kid
     split
     · rename_i hc
       rcases hk with rfl | rfl <;> omega
     · rename_i hc
       rcases hk with rfl | rfl
       · omega
       · have : ¬ at0 l (2 * i + 2) < at0 l (2 * i + 1) := fun h => hc ⟨p2, h⟩
         omega
    have hk := kid_or l i n
    generalize hkj : kid l i n = j at hk hmin
    have hi : i < l.length := by omega
    have hj : j < l.length := by omega
    split
    · rename_i hlt
      have sw := swap_at (l := l) hi hj
      refine ih j n (swapL l i j) (by omega) (by rw [swapL_length]; exact hn) ⟨fun k p1 p2 p3 => ?_, fun k p1 p2 p3 p4 => ?_⟩
      · rw [sw, sw]
        rw [if_neg p3]
        by_cases e1 : (k - 1) / 2 = i
        · rw [if_pos e1]
          by_cases e2 : k = j
          · rw [if_pos e2]; omega
          · rw [if_neg e2, if_neg (by omega)]
            exact hmin k p1 p2 e1
        · rw [if_neg e1]
          by_cases e2 : k = j
          · omega
          · rw [if_neg e2]
            by_cases e3 : k = i
            · rw [if_pos e3]
              subst e3
              exact h2 j (by omega) (by omega) (by omega) p1
            · rw [if_neg e3]
              exact h1 k p1 p2 e1
      · rw [sw, sw]
        rw [if_neg (show ¬ (j - 1) / 2 = j by omega), if_pos (show (j - 1) / 2 = i by omega), if_neg (show ¬ k = j by omega), if_neg (show ¬ k = i by omega)]
        have := h1 k p1 p2 (by omega)
        rw [p3] at this; exact this
    · rename_i hlt
      intro k p1 p2
      by_cases e1 : (k - 1) / 2 = i
      · have := hmin k p1 p2 e1
        rw [e1]; omega
      · exact h1 k p1 p2 e1
theorem heap_min {l : List Int} (h : HeapOk l) : ∀ k, k < l.length -> at0 l 0 <= at0 l k := by
 intro k
 induction k using Nat.strongRecOn with
 | _ k ih =>
  intro hk
  by_cases h0 : k = 0
  · subst h0; exact Int.le_refl _
  · have h1 := ih ((k - 1) / 2) (by omega) (by omega)
    have h2 := h k (by omega) hk
    omega
def pushL (l : List Int) (x : Int) : List Int := upL (l ++ [x]) l.length
theorem push_ok {l : List Int} {x : Int} (h : HeapOk l) : HeapOk (pushL l x) /\ (pushL l x).Perm (x :: l) := by
 have hlen : l.length < (l ++ [x]).length := by simp
 have hget : ∀ i, i < l.length -> at0 (l ++ [x]) i = at0 l i := fun i hi => by
  unfold at0
  rw [List.getD_eq_getElem?_getD, List.getD_eq_getElem?_getD, List.getElem?_append_left hi]
 refine ⟨up_heap _ _ hlen ⟨fun i p1 p2 p3 => ?_, fun i p1 p2 p3 p4 => ?_⟩, (up_perm _ _ hlen).trans ?_⟩
 · have hi : i < l.length := by simp at p2; omega
   rw [hget i hi, hget _ (by omega)]
   exact h i p1 hi
 · simp at p2; omega
 · exact List.perm_append_comm
def popD (l : List Int) : List Int := downL (swapL l 0 (l.length - 1)) 0 (l.length - 1)
theorem pop_ok {l : List Int} (h : HeapOk l) (h0 : 0 < l.length) : (popD l).length = l.length /\ at0 (popD l) (l.length - 1) = at0 l 0 /\ HeapOk ((popD l).take (l.length - 1)) /\ l.Perm (at0 l 0 :: (popD l).take (l.length - 1)) /\ ∀ x ∈ (popD l).take (l.length - 1), at0 l 0 <= x := by
 have hn : l.length - 1 < l.length := by omega
 have sw := swap_at (l := l) h0 hn
 have hsl := swapL_length l 0 (l.length - 1)
 obtain ⟨d1, d2⟩ := down_same _ 0 (l.length - 1) (swapL l 0 (l.length - 1)) (Nat.le_refl _) (by omega)
 have d3 := down_heap _ 0 (l.length - 1) (swapL l 0 (l.length - 1)) (Nat.le_refl _) (by omega) ⟨fun k p1 p2 p3 => by
  rw [sw, sw, if_neg (by omega), if_neg (by omega), if_neg (by omega), if_neg (by omega)]
  exact h k p1 (by omega), fun k _ _ _ p4 => by omega⟩
 have hlen : (popD l).length = l.length := by rw [<- hsl]; exact d1.length_eq
 have htop : at0 (popD l) (l.length - 1) = at0 l 0 := by
  show at0 (downL _ _ _) _ = _
  rw [d2 _ (Nat.le_refl _), sw, if_pos rfl]
 have hcut : popD l = (popD l).take (l.length - 1) ++ [at0 l 0] := by
  apply List.ext_getElem?
  intro i
  rw [List.getElem?_append]
  have hl2 : ((popD l).take (l.length - 1)).length = l.length - 1 := by simp; omega
  by_cases hi : i < l.length - 1
  · rw [if_pos (by rw [hl2]; exact hi), List.getElem?_take_of_lt hi]
  · rw [if_neg (by rw [hl2]; exact hi), hl2]
    by_cases hi2 : i = l.length - 1
    · subst hi2
      have hlt : l.length - 1 < (popD l).length := by omega
      rw [List.getElem?_eq_getElem hlt, Nat.sub_self]
      have : at0 (popD l) (l.length - 1) = (popD l)[l.length - 1] := by
       unfold at0; rw [List.getD_eq_getElem?_getD, List.getElem?_eq_getElem hlt]; rfl
      rw [<- this, htop]; rfl
    · rw [List.getElem?_eq_none (by omega), List.getElem?_eq_none (by simp; omega)]
 have hp : l.Perm (at0 l 0 :: (popD l).take (l.length - 1)) := by
  have h1 : (popD l).Perm l := d1.trans (swap_perm h0 hn)
  refine h1.symm.trans ?_
  conv => lhs; rw [hcut]
  exact List.perm_append_comm
 refine ⟨hlen, htop, fun i p1 p2 => ?_, hp, fun x hx => ?_⟩
 · have hl2 : ((popD l).take (l.length - 1)).length = l.length - 1 := by simp; omega
   rw [hl2] at p2
   have hget : ∀ i, i < l.length - 1 -> at0 ((popD l).take (l.length - 1)) i = at0 (popD l) i := fun i hi => by
    unfold at0
    rw [List.getD_eq_getElem?_getD, List.getD_eq_getElem?_getD, List.getElem?_take_of_lt hi]
   rw [hget i p2, hget _ (by omega)]
   exact d3 i p1 p2
 · have hm : x ∈ l := hp.mem_iff.2 (List.mem_cons_of_mem _ hx)
   obtain ⟨k, hk, rfl⟩ := List.getElem_of_mem hm
   have := heap_min h k hk
   have e : at0 l k = l[k] := by unfold at0; rw [List.getD_eq_getElem?_getD, List.getElem?_eq_getElem hk]; rfl
   rw [<- e]; exact this
def usedL : List Int -> List Int
 | [] => []
 | k :: r => k :: 1 :: usedL r
theorem used_get : ∀ (K : List Int) (x : Int), mGet (usedL K) x = if x ∈ K then some 1 else none
 | [], x => rfl
 | k :: r, x => by
  simp only [usedL, mGet]
  by_cases h : k = x
  · subst h; simp
  · rw [if_neg h, used_get r x]
    by_cases h2 : x ∈ r
    · rw [if_pos h2, if_pos (List.mem_cons_of_mem _ h2)]
    · rw [if_neg h2, if_neg]
      intro e
      rcases List.mem_cons.1 e with e | e
      · exact h e.symm
      · exact h2 e
theorem used_put : ∀ {K : List Int} {x : Int}, x ∉ K -> mPut (usedL K) x 1 = usedL (K ++ [x])
 | [], x, _ => rfl
 | k :: r, x, h => by
  have h1 : ¬ k = x := fun e => h (by rw [e]; exact List.mem_cons_self)
  simp only [usedL, mPut, if_neg h1, List.cons_append]
  rw [used_put fun e => h (List.mem_cons_of_mem _ e)]
theorem used_del : ∀ (K : List Int) (x : Int), mDel (usedL K) x = usedL (K.erase x)
 | [], x => rfl
 | k :: r, x => by
  simp only [usedL, mDel]
  by_cases h : k = x
  · subst h; simp
  · rw [if_neg h, used_del r x, List.erase_cons_tail (by simpa using h)]; rfl
def upTo (h : Nat) : List Int := (List.range h).map fun (i : Nat) => (i : Int) + 1
theorem upTo_mem {h : Nat} {x : Int} : x ∈ upTo h ↔ 1 <= x /\ x <= h := by
 unfold upTo
 simp only [List.mem_map, List.mem_range]
 constructor
 · rintro ⟨i, hi, rfl⟩; omega
 · intro ⟨h1, h2⟩; exact ⟨(x - 1).toNat, by omega, by omega⟩
theorem upTo_nodup (h : Nat) : (upTo h).Nodup := by
 unfold upTo
 exact List.pairwise_map.2 (List.nodup_range.imp fun h e => h (by omega))
theorem upTo_succ (h : Nat) : upTo (h + 1) = upTo h ++ [(h : Int) + 1] := by
 unfold upTo; rw [List.range_succ, List.map_append]; rfl
structure Stk (most : Int) (h : Nat) (B K : List Int) : Prop where
 perm : (B ++ K).Perm (upTo h)
 heap : HeapOk B
 le : (h : Int) <= most
section
variable {most : Int} {h : Nat} {B K : List Int}
theorem Stk.nodup (s : Stk most h B K) : (B ++ K).Nodup := s.perm.nodup_iff.2 (upTo_nodup h)
theorem Stk.len (s : Stk most h B K) : B.length + K.length = h := by
 have := s.perm.length_eq
 simpa [upTo] using this
theorem Stk.mem (s : Stk most h B K) {x : Int} : x ∈ B ∨ x ∈ K ↔ 1 <= x /\ x <= h := by
 rw [<- upTo_mem, <- s.perm.mem_iff, List.mem_append]
theorem Stk.new {most : Int} (h0 : 0 <= most) : Stk most 0 [] [] := ⟨List.Perm.refl [], fun i _ h => absurd h (Nat.not_lt_zero i), h0⟩
theorem Stk.pop (s : Stk most h B K) (h0 : 0 < B.length) : Stk most h ((popD B).take (B.length - 1)) (K ++ [at0 B 0]) /\ at0 B 0 ∉ K /\ 1 <= at0 B 0 /\ at0 B 0 <= h /\ ∀ i, 1 <= i -> i <= at0 B 0 -> i ∈ K ++ [at0 B 0] := by
 obtain ⟨_, _, p3, p4, p5⟩ := pop_ok s.heap h0
 have hm : at0 B 0 ∈ B := p4.mem_iff.2 List.mem_cons_self
 have hk := (s.mem (x := at0 B 0)).1 (.inl hm)
 have hn := s.nodup
 rw [List.nodup_append] at hn
 refine ⟨⟨?_, p3, s.le⟩, fun hK => hn.2.2 _ hm _ hK rfl, hk.1, hk.2, fun i h1 h2 => ?_⟩
 · refine List.Perm.trans ?_ s.perm
   rw [<- List.append_assoc]
   refine (List.perm_append_comm).trans ?_
   show (at0 B 0 :: ((popD B).take (B.length - 1) ++ K)).Perm _
   rw [<- List.cons_append]
   exact List.Perm.append_right K p4.symm
 · rcases (s.mem (x := i)).2 ⟨h1, by omega⟩ with h3 | h3
   · rcases List.mem_cons.1 (p4.mem_iff.1 h3) with h4 | h4
     · rw [h4]; simp
     · have := p5 i h4
       have : i = at0 B 0 := by omega
       rw [this]; simp
   · exact List.mem_append_left _ h3
theorem Stk.next (s : Stk most h [] K) (hlt : (h : Int) < most) : Stk most (h + 1) [] (K ++ [(h : Int) + 1]) /\ (h : Int) + 1 ∉ K /\ K.length = h /\ ∀ i, 1 <= i -> i <= (h : Int) + 1 -> i ∈ K ++ [(h : Int) + 1] := by
 have hp := s.perm
 rw [List.nil_append] at hp
 refine ⟨⟨?_, s.heap, by omega⟩, fun hK => ?_, by have := s.len; simpa using this, fun i h1 h2 => ?_⟩
 · rw [List.nil_append, upTo_succ]
   exact List.Perm.append_right _ hp
 · have := (s.mem (x := (h : Int) + 1)).1 (.inr hK)
   omega
 · by_cases hi : i = (h : Int) + 1
   · rw [hi]; simp
   · rcases (s.mem (x := i)).2 ⟨h1, by omega⟩ with h3 | h3
     · cases h3
     · exact List.mem_append_left _ h3
theorem Stk.give (s : Stk most h B K) {x : Int} (hx : x ∈ K) : Stk most h (pushL B x) (K.erase x) /\ x ∉ K.erase x := by
 obtain ⟨p1, p2⟩ := push_ok (x := x) s.heap
 have hn := s.nodup
 rw [List.nodup_append] at hn
 refine ⟨⟨?_, p1, s.le⟩, fun h => ?_⟩
 · refine List.Perm.trans ?_ s.perm
   refine (List.Perm.append_right _ p2).trans ?_
   rw [List.cons_append]
   refine (List.perm_middle).symm.trans ?_
   exact List.Perm.append_left B (List.perm_cons_erase hx).symm
 · exact (hn.2.1.not_mem_erase) h
end
end Le
end Go.Vm
end
section
namespace Go.Vm
namespace Le
def BornM (es : Array MapEntry) (cl : Nat) : Prop := (∀ e ∈ es.toList, e.born < cl) /\ (es.toList.map (·.born)).Nodup
def RowO (L : List Int) (cap : Nat) (o : Obj) : Prop := ∃ c fr, o = .cells c 3 fr /\ L.map (Value.int .i64) <+: c.toList /\ c.size = cap /\ (fr.2 <= fr.1 ∨ c.size <= fr.1)
def BackIn (w : World) (b bm : Nat) (F : Nat -> Prop) (B : List Int) (vb : Value) : Prop :=
 (∃ a, vb = .slice a 0 0 /\ (∀ p, a = some p -> p.spot = none) /\ B = [] /\ ∀ y, F y ↔ y = b ∨ y = bm) ∨
 ∃ b1 cap X o, vb = .slice (some ⟨b1, 0, none⟩) B.length cap /\ w.heap[b1]? = some o /\ RowO X cap o /\ X.take B.length = B /\ b1 ≠ b /\ b1 ≠ bm /\ ∀ y, F y ↔ y = b ∨ y = bm ∨ y = b1
structure StockIn (w : World) (b : Nat) (F : Nat -> Prop) (most : Int) (h : Nat) (K : List Int) : Prop where
 ex : ∃ B c fr vb bm es cl, w.heap[b]? = some (.cells c 103 fr) /\ c.toList = [.int .i64 most, .int .i64 h, vb, .map (some bm)] /\ (fr.2 <= fr.1 ∨ c.size <= fr.1) /\ w.heap[bm]? = some (.map es cl) ∧
  es.toList.map (fun e => (e.key, e.val)) = K.map (fun k => (Value.int .i64 k, Value.int .i64 1)) /\ BornM es cl /\ Stk most h B K /\ b ≠ bm /\ BackIn w b bm F B vb
 m0 : 0 <= most
 m1 : most <= 65535
end Le
namespace Mb
open Le (BornM)
abbrev Es := List (Int × List Int)
def codeE (es : Es) : Int := encL (es.map fun p => encL (p.1 :: p.2))
def ofE (z : Int) : Int × List Int := match decL z with
 | a :: r => (a, r)
 | [] => (0, [])
def esOf (x : Int) : Es := (decL x).map ofE
theorem esOf_code (es : Es) : esOf (codeE es) = es := by
 unfold esOf codeE
 rw [decL_encL, List.map_map]
 conv => rhs; rw [<- List.map_id es]
 refine List.map_congr_left fun p _ => ?_
 simp only [Function.comp, ofE, decL_encL, id]
def RowM (L : List Int) (cap : Nat) (o : Obj) : Prop := ∃ c fr, o = .cells c 32 fr /\ L.map (Value.int .u64) <+: c.toList /\ c.size = cap /\ (fr.2 <= fr.1 ∨ c.size <= fr.1)
def valB (ad cap : Int -> Nat) (p : Int × List Int) : Int × Value := (p.1, .agg #[.int .u64 (p.2.headD 0), .slice (some ⟨ad p.1, 0, none⟩) p.2.tail.length (cap p.1)])
def kvE (p : Int × Value) : Value × Value := (.int .i64 p.1, p.2)
structure BlksIn (es : Es) (w : World) (b : Nat) (F : Nat -> Prop) : Prop where
 nodup : (es.map (·.1)).Nodup
 small : ∀ p ∈ es, 1 <= p.2.tail.length /\ p.2.tail.length <= 2048
 data : ∃ (m : Array MapEntry) (cl : Nat) (ad cap : Int -> Nat), w.heap[b]? = some (.map m cl) /\ BornM m cl /\ m.toList.map (fun e => (e.key, e.val)) = (es.map (valB ad cap)).map kvE ∧
  (∀ p ∈ es, ad p.1 ≠ b /\ ∃ o, w.heap[ad p.1]? = some o /\ RowM p.2.tail (cap p.1) o) ∧
  (∀ p ∈ es, ∀ q ∈ es, ad p.1 = ad q.1 -> p.1 = q.1) ∧
  ∀ y, F y ↔ y = b ∨ ∃ p ∈ es, y = ad p.1
theorem BlksIn.root {es : Es} {w : World} {b : Nat} {F : Nat -> Prop} (h : BlksIn es w b F) : F b := by
 obtain ⟨_, _, _, _, _, _, _, _, _, _, _, hF⟩ := h
 exact (hF b).2 (.inl rfl)
theorem BlksIn.lt {es : Es} {w : World} {b : Nat} {F : Nat -> Prop} (h : BlksIn es w b F) {y : Nat} (hy : F y) : y < w.heap.size := by
 obtain ⟨_, _, _, _, _, _, h1, _, _, h2, _, hF⟩ := h
 rcases (hF y).1 hy with rfl | ⟨p, hp, rfl⟩
 · exact (Array.getElem?_eq_some_iff.1 h1).1
 · obtain ⟨_, o, ho, _⟩ := h2 p hp
   exact (Array.getElem?_eq_some_iff.1 ho).1
theorem BlksIn.local {es : Es} {w w' : World} {b : Nat} {F : Nat -> Prop} (h : BlksIn es w b F) (e : ∀ y, F y -> w'.heap[y]? = w.heap[y]?) : BlksIn es w' b F := by
 obtain ⟨hn, hsm, m, cl, ad, cap, h1, hb, hm, h2, h3, hF⟩ := h
 refine ⟨hn, hsm, m, cl, ad, cap, by rw [e b ((hF b).2 (.inl rfl))]; exact h1, hb, hm, fun p hp => ?_, h3, hF⟩
 obtain ⟨hne, o, ho, hr⟩ := h2 p hp
 exact ⟨hne, o, by rw [e _ ((hF _).2 (.inr ⟨p, hp, rfl⟩))]; exact ho, hr⟩
def arenaC (A : List Int) (vs vm : Value) : List Value := (A.take 4).map (Value.int .i64) ++ (A.drop 4 |>.take 10).map (Value.int .u64) ++ [vs, vm] ++ (A.drop 14).map (Value.int .i64)
structure ArenaIn (A : List Int) (most : Int) (hi : Nat) (K : List Int) (es : Es) (w : World) (b : Nat) (F : Nat -> Prop) : Prop where
 len : A.length = 20
 ex : ∃ c fr bs bm F1 F2, w.heap[b]? = some (.cells c 77 fr) /\ c.toList = arenaC A (.pointer (some ⟨bs, 0, none⟩)) (.map (some bm)) /\ (fr.2 <= fr.1 ∨ c.size <= fr.1) /\ Le.StockIn w bs F1 most hi K /\ BlksIn es w bm F2 ∧
  ¬ F1 b /\ ¬ F2 b /\ (∀ y, F1 y -> ¬ F2 y) /\ ∀ y, F y ↔ y = b ∨ F1 y ∨ F2 y
end Mb
open Le Mb
theorem Le.StockIn.root {w : World} {b : Nat} {F : Nat -> Prop} {most : Int} {h : Nat} {K : List Int} (s : StockIn w b F most h K) : F b := by
 obtain ⟨⟨_, _, _, _, _, _, _, _, _, _, _, _, _, _, _, hb⟩, _, _⟩ := s
 rcases hb with ⟨_, _, _, _, hF⟩ | ⟨_, _, _, _, _, _, _, _, _, _, hF⟩
 · exact (hF b).2 (.inl rfl)
 · exact (hF b).2 (.inl rfl)
theorem Le.StockIn.lt {w : World} {b : Nat} {F : Nat -> Prop} {most : Int} {h : Nat} {K : List Int} (s : StockIn w b F most h K) {y : Nat} (hy : F y) : y < w.heap.size := by
 obtain ⟨⟨_, _, _, _, bm, _, _, h1, _, _, h2, _, _, _, _, hb⟩, _, _⟩ := s
 have lt : ∀ {z : Nat} {o : Obj}, w.heap[z]? = some o -> z < w.heap.size := fun e => (Array.getElem?_eq_some_iff.1 e).1
 rcases hb with ⟨_, _, _, _, hF⟩ | ⟨_, _, _, _, _, h3, _, _, _, _, hF⟩
 · rcases (hF y).1 hy with rfl | rfl
   · exact lt h1
   · exact lt h2
 · rcases (hF y).1 hy with rfl | rfl | rfl
   · exact lt h1
   · exact lt h2
   · exact lt h3
theorem Le.StockIn.local {w w' : World} {b : Nat} {F : Nat -> Prop} {most : Int} {h : Nat} {K : List Int} (s : StockIn w b F most h K) (e : ∀ y, F y -> w'.heap[y]? = w.heap[y]?) : StockIn w' b F most h K := by
 obtain ⟨⟨B, c, fr, vb, bm, es, cl, h1, hc, hf, h2, he, hbn, hs, hne, hb⟩, m0, m1⟩ := s
 refine ⟨⟨B, c, fr, vb, bm, es, cl, ?_, hc, hf, ?_, he, hbn, hs, hne, ?_⟩, m0, m1⟩
 · rcases hb with ⟨_, _, _, _, hF⟩ | ⟨_, _, _, _, _, _, _, _, _, _, hF⟩
   · rw [e b ((hF b).2 (.inl rfl))]; exact h1
   · rw [e b ((hF b).2 (.inl rfl))]; exact h1
 · rcases hb with ⟨_, _, _, _, hF⟩ | ⟨_, _, _, _, _, _, _, _, _, _, hF⟩
   · rw [e bm ((hF bm).2 (.inr rfl))]; exact h2
   · rw [e bm ((hF bm).2 (.inr (.inl rfl)))]; exact h2
 · rcases hb with hz | ⟨b1, cap, X, o, g1, g2, g3, g4, g5, g6, hF⟩
   · exact .inl hz
   · exact .inr ⟨b1, cap, X, o, g1, by rw [e b1 ((hF b1).2 (.inr (.inr rfl)))]; exact g2, g3, g4, g5, g6, hF⟩
theorem Mb.ArenaIn.root {A : List Int} {most : Int} {hi : Nat} {K : List Int} {es : Es} {w : World} {b : Nat} {F : Nat -> Prop} (h : ArenaIn A most hi K es w b F) : F b := by
 obtain ⟨_, _, _, _, _, _, _, _, _, _, _, _, _, _, _, hF⟩ := h
 exact (hF b).2 (.inl rfl)
theorem Mb.ArenaIn.lt {A : List Int} {most : Int} {hi : Nat} {K : List Int} {es : Es} {w : World} {b : Nat} {F : Nat -> Prop} (h : ArenaIn A most hi K es w b F) {y : Nat} (hy : F y) : y < w.heap.size := by
 obtain ⟨_, _, _, _, _, _, _, h1, _, _, h2, h3, _, _, _, hF⟩ := h
 rcases (hF y).1 hy with rfl | g | g
 · exact (Array.getElem?_eq_some_iff.1 h1).1
 · exact h2.lt g
 · exact h3.lt g
theorem Mb.ArenaIn.local {A : List Int} {most : Int} {hi : Nat} {K : List Int} {es : Es} {w w' : World} {b : Nat} {F : Nat -> Prop} (h : ArenaIn A most hi K es w b F) (e : ∀ y, F y -> w'.heap[y]? = w.heap[y]?) : ArenaIn A most hi K es w' b F := by
 obtain ⟨hl, c, fr, bs, bm, F1, F2, h1, hc, hf, h2, h3, n1, n2, n3, hF⟩ := h
 exact ⟨hl, c, fr, bs, bm, F1, F2, by rw [e b ((hF b).2 (.inl rfl))]; exact h1, hc, hf, h2.local fun y hy => e y ((hF y).2 (.inr (.inl hy))), h3.local fun y hy => e y ((hF y).2 (.inr (.inr hy))), n1, n2, n3, hF⟩
structure Mb.IterIn (l : List Int) (w : World) (b : Nat) (F : Nat -> Prop) : Prop where
 ex : ∃ (bm since cl : Nat) (sn : Array Nat), w.heap[b]? = some (.mapIter (some bm) since sn cl) /\ l = (bm : Int) :: (since : Int) :: (cl : Int) :: sn.toList.map Int.ofNat
 F : ∀ y, F y ↔ y = b
abbrev Mb.Rb := List (Int × (Nat × Nat × Nat × Nat))
def Mb.cellsB (ps : Rb) : List Value := ps.flatMap fun p => [.int .u64 p.1, .slice (some ⟨p.2.1, p.2.2.1, none⟩) p.2.2.2.1 p.2.2.2.2]
structure Mb.RefIn (ps : Rb) (cap : Nat) (w : World) (b : Nat) (F : Nat -> Prop) : Prop where
 ex : ∃ cur fr, w.heap[b]? = some (.cells cur 112 fr) /\ (fr.2 <= fr.1 ∨ cur.size <= fr.1) /\ ps.length <= cap /\ cur.size = cap * 2 /\ cur.toList.take (ps.length * 2) = cellsB ps
 F : ∀ y, F y ↔ y = b
abbrev Mb.Rr := List (Option (Nat × Nat × Nat × Nat))
def Mb.slV : Option (Nat × Nat × Nat × Nat) -> Value
 | none => .slice none 0 0
 | some e => slX e.1 e.2.1 e.2.2.1 e.2.2.2
def Mb.slC : Option (Nat × Nat × Nat × Nat) -> Int
 | none => 0
 | some e => encL [(e.1 : Int), (e.2.1 : Int), (e.2.2.1 : Int), (e.2.2.2 : Int)]
def Mb.WordsM (w : World) (b o n : Nat) : Prop := ∃ c fr el, ∃ L : List Int, w.heap[b]? = some (.cells c el fr) /\ o <= c.size /\ L.length = n /\ L.map (Value.int .u64) <+: c.toList.drop o
structure Mb.RrIn (es : Rr) (cap : Nat) (w : World) (b : Nat) (F : Nat -> Prop) : Prop where
 ex : ∃ cur fr, w.heap[b]? = some (.cells cur 22 fr) /\ (fr.2 <= fr.1 ∨ cur.size <= fr.1) /\ es.length <= cap /\ cur.size = cap /\ cur.toList.take es.length = es.map slV
 row : ∀ e, some e ∈ es -> 1 <= e.2.2.1 -> e.1 ≠ b /\ WordsM w e.1 e.2.1 e.2.2.1
 F : ∀ y, F y ↔ y = b ∨ ∃ e, some e ∈ es /\ 1 <= e.2.2.1 /\ y = e.1
theorem Mb.RrIn.local {es : Rr} {cap : Nat} {w w' : World} {b : Nat} {F : Nat -> Prop} (h : RrIn es cap w b F) (e : ∀ y, F y -> w'.heap[y]? = w.heap[y]?) : RrIn es cap w' b F := by
 refine ⟨?_, fun x hx hn => ?_, h.F⟩
 · obtain ⟨cur, fr, h1, h2⟩ := h.ex
   exact ⟨cur, fr, by rw [e b ((h.F b).2 (.inl rfl))]; exact h1, h2⟩
 · obtain ⟨h0, c, fr, el, L, h1, h2⟩ := h.row x hx hn
   exact ⟨h0, c, fr, el, L, by rw [e x.1 ((h.F _).2 (.inr ⟨x, hx, hn, rfl⟩))]; exact h1, h2⟩
theorem Mb.RrIn.lt {es : Rr} {cap : Nat} {w : World} {b : Nat} {F : Nat -> Prop} (h : RrIn es cap w b F) {y : Nat} (hy : F y) : y < w.heap.size := by
 rcases (h.F y).1 hy with rfl | ⟨x, hx, hn, rfl⟩
 · obtain ⟨_, _, h1, _⟩ := h.ex
   exact (Array.getElem?_eq_some_iff.1 h1).1
 · obtain ⟨_, _, _, _, _, h1, _⟩ := h.row x hx hn
   exact (Array.getElem?_eq_some_iff.1 h1).1
def fam (k : Nat) (x : Int) (w : World) (b : Nat) (F : Nat -> Prop) : Prop :=
 (k = 0 /\ ∃ most h K, x = encL (most :: (h : Nat) :: K) /\ StockIn w b F most h K) ∨ (k = 1 /\ ∃ es, x = codeE es /\ BlksIn es w b F) ∨
 (k = 2 /\ ∃ A most hi K es, x = encL [encL A, encL (most :: (hi : Nat) :: K), codeE es] /\ ArenaIn A most hi K es w b F) ∨ (k = 3 /\ ∃ l, x = encL l /\ IterIn l w b F) ∨ (k = 4 /\ ∃ ps cap, x = encL (((cap : Nat) : Int) :: ps.map (·.1)) /\ RefIn ps cap w b F) ∨ (k = 5 /\ ∃ es cap, x = encL (((cap : Nat) : Int) :: es.map slC) /\ RrIn es cap w b F)
theorem fam0_inv {x : Int} {w : World} {b : Nat} {F : Nat -> Prop} (h : fam 0 x w b F) : ∃ most h K, x = encL (most :: (h : Nat) :: K) /\ StockIn w b F most h K := by
 rcases h with ⟨_, h⟩ | ⟨h, _⟩ | ⟨h, _⟩ | ⟨h, _⟩ | ⟨h, _⟩ | ⟨h, _⟩
 · exact h
 · cases h
 · cases h
 · cases h
 · cases h
 · cases h
theorem fam0 {w : World} {b : Nat} {F : Nat -> Prop} {most : Int} {h : Nat} {K : List Int} (s : StockIn w b F most h K) : fam 0 (encL (most :: (h : Nat) :: K)) w b F := .inl ⟨rfl, most, h, K, rfl, s⟩
theorem fam1_inv {x : Int} {w : World} {b : Nat} {F : Nat -> Prop} (h : fam 1 x w b F) : ∃ es, x = codeE es /\ BlksIn es w b F := by
 rcases h with ⟨h, _⟩ | ⟨_, h⟩ | ⟨h, _⟩ | ⟨h, _⟩ | ⟨h, _⟩ | ⟨h, _⟩
 · cases h
 · exact h
 · cases h
 · cases h
 · cases h
 · cases h
theorem fam1 {w : World} {b : Nat} {F : Nat -> Prop} {es : Es} (s : BlksIn es w b F) : fam 1 (codeE es) w b F := .inr (.inl ⟨rfl, es, rfl, s⟩)
theorem fam2_inv {x : Int} {w : World} {b : Nat} {F : Nat -> Prop} (h : fam 2 x w b F) : ∃ A most hi K es, x = encL [encL A, encL (most :: (hi : Nat) :: K), codeE es] /\ ArenaIn A most hi K es w b F := by
 rcases h with ⟨h, _⟩ | ⟨h, _⟩ | ⟨_, h⟩ | ⟨h, _⟩ | ⟨h, _⟩ | ⟨h, _⟩
 · cases h
 · cases h
 · exact h
 · cases h
 · cases h
 · cases h
theorem fam2 {A : List Int} {most : Int} {hi : Nat} {K : List Int} {es : Es} {w : World} {b : Nat} {F : Nat -> Prop} (s : ArenaIn A most hi K es w b F) : fam 2 (encL [encL A, encL (most :: (hi : Nat) :: K), codeE es]) w b F := .inr (.inr (.inl ⟨rfl, A, most, hi, K, es, rfl, s⟩))
theorem fam3_inv {x : Int} {w : World} {b : Nat} {F : Nat -> Prop} (h : fam 3 x w b F) : ∃ l, x = encL l /\ IterIn l w b F := by
 rcases h with ⟨h, _⟩ | ⟨h, _⟩ | ⟨h, _⟩ | ⟨_, h⟩ | ⟨h, _⟩ | ⟨h, _⟩
 · cases h
 · cases h
 · cases h
 · exact h
 · cases h
 · cases h
theorem fam3 {l : List Int} {w : World} {b : Nat} {F : Nat -> Prop} (s : IterIn l w b F) : fam 3 (encL l) w b F := .inr (.inr (.inr (.inl ⟨rfl, l, rfl, s⟩)))
theorem fam4_inv {x : Int} {w : World} {b : Nat} {F : Nat -> Prop} (h : fam 4 x w b F) : ∃ ps cap, x = encL (((cap : Nat) : Int) :: ps.map (·.1)) /\ RefIn ps cap w b F := by
 rcases h with ⟨h, _⟩ | ⟨h, _⟩ | ⟨h, _⟩ | ⟨h, _⟩ | ⟨_, h⟩ | ⟨h, _⟩
 · cases h
 · cases h
 · cases h
 · cases h
 · exact h
 · cases h
theorem fam4 {ps : Rb} {cap : Nat} {w : World} {b : Nat} {F : Nat -> Prop} (s : RefIn ps cap w b F) : fam 4 (encL (((cap : Nat) : Int) :: ps.map (·.1))) w b F := .inr (.inr (.inr (.inr (.inl ⟨rfl, ps, cap, rfl, s⟩))))
theorem fam5_inv {x : Int} {w : World} {b : Nat} {F : Nat -> Prop} (h : fam 5 x w b F) : ∃ es cap, x = encL (((cap : Nat) : Int) :: es.map slC) /\ RrIn es cap w b F := by
 rcases h with ⟨h, _⟩ | ⟨h, _⟩ | ⟨h, _⟩ | ⟨h, _⟩ | ⟨h, _⟩ | ⟨_, h⟩
 · cases h
 · cases h
 · cases h
 · cases h
 · cases h
 · exact h
theorem fam5 {es : Rr} {cap : Nat} {w : World} {b : Nat} {F : Nat -> Prop} (s : RrIn es cap w b F) : fam 5 (encL (((cap : Nat) : Int) :: es.map slC)) w b F := .inr (.inr (.inr (.inr (.inr ⟨rfl, es, cap, rfl, s⟩))))
theorem fam_root {k : Nat} {x : Int} {w : World} {b : Nat} {F : Nat -> Prop} (h : fam k x w b F) : F b := by
 rcases h with ⟨_, _, _, _, _, h⟩ | ⟨_, _, _, h⟩ | ⟨_, _, _, _, _, _, _, h⟩ | ⟨_, _, _, h⟩ | ⟨_, _, _, _, h⟩ | ⟨_, _, _, _, h⟩
 · exact h.root
 · exact h.root
 · exact h.root
 · exact (h.F b).2 rfl
 · exact (h.F b).2 rfl
 · exact (h.F b).2 (.inl rfl)
theorem fam_lt {k : Nat} {x : Int} {w : World} {b : Nat} {F : Nat -> Prop} (h : fam k x w b F) {y : Nat} (hy : F y) : y < w.heap.size := by
 rcases h with ⟨_, _, _, _, _, h⟩ | ⟨_, _, _, h⟩ | ⟨_, _, _, _, _, _, _, h⟩ | ⟨_, _, _, h⟩ | ⟨_, _, _, _, h⟩ | ⟨_, _, _, _, h⟩
 · exact h.lt hy
 · exact h.lt hy
 · exact h.lt hy
 · obtain rfl := (h.F y).1 hy
   obtain ⟨_, _, _, _, h1, _⟩ := h.ex
   exact (Array.getElem?_eq_some_iff.1 h1).1
 · obtain rfl := (h.F y).1 hy
   obtain ⟨_, _, h1, _⟩ := h.ex
   exact (Array.getElem?_eq_some_iff.1 h1).1
 · exact h.lt hy
theorem fam_local {k : Nat} {x : Int} {w w' : World} {b : Nat} {F : Nat -> Prop} (h : fam k x w b F) (e : ∀ y, F y -> w'.heap[y]? = w.heap[y]?) : fam k x w' b F := by
 rcases h with ⟨hk, m, i, K, hx, h⟩ | ⟨hk, es, hx, h⟩ | ⟨hk, A, m, i, K, es, hx, h⟩ | ⟨hk, l, hx, h⟩ | ⟨hk, ps, cap, hx, h⟩ | ⟨hk, es, cap, hx, h⟩
 · exact .inl ⟨hk, m, i, K, hx, h.local e⟩
 · exact .inr (.inl ⟨hk, es, hx, h.local e⟩)
 · exact .inr (.inr (.inl ⟨hk, A, m, i, K, es, hx, h.local e⟩))
 · refine .inr (.inr (.inr (.inl ⟨hk, l, hx, ⟨?_, h.F⟩⟩)))
   obtain ⟨bm, s, cl, sn, h1, h2⟩ := h.ex
   exact ⟨bm, s, cl, sn, by rw [e b ((h.F b).2 rfl)]; exact h1, h2⟩
 · refine .inr (.inr (.inr (.inr (.inl ⟨hk, ps, cap, hx, ⟨?_, h.F⟩⟩))))
   obtain ⟨cur, fr, h1, h2⟩ := h.ex
   exact ⟨cur, fr, by rw [e b ((h.F b).2 rfl)]; exact h1, h2⟩
 · exact .inr (.inr (.inr (.inr (.inr ⟨hk, es, cap, hx, h.local e⟩))))
end Go.Vm
end
