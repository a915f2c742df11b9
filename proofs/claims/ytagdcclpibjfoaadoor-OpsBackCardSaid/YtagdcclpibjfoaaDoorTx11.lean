/-
  Texts (11): the text of an operation is read back.
-/
import Derived.Test.YtagdcclpibjfoaaDoorTx10
namespace Go.Proofs.YtagdcclpibjfoaaDoor
open Go.Vm
namespace Txt

theorem itoa_blank' (n : Int) : (32 : UInt8) ∉ Lib.itoa n := by
  by_cases h : 0 ≤ n
  · exact itoa_blank h
  · unfold Lib.itoa
    rw [if_pos (by omega)]
    intro hb
    rcases List.mem_cons.1 hb with h1 | h1
    · exact absurd h1 (by decide)
    · have := decDigits_dig _ _ h1
      simp at this
theorem joinW_snoc : ∀ {ls : List (List UInt8)} (x : List UInt8), ls ≠ [] → joinW (ls ++ [x]) = joinW ls ++ (32 :: x)
  | [], _, h => absurd rfl h
  | [w], x, _ => rfl
  | w :: v :: ws, x, _ => by
    have ih := joinW_snoc (ls := v :: ws) x (by simp)
    show w ++ (32 :: joinW ((v :: ws) ++ [x])) = (w ++ (32 :: joinW (v :: ws))) ++ (32 :: x)
    rw [ih]; simp
/-- The words of a text that is put together out of names and numerals. -/
def wordsST : ST → Option (List ST)
  | .lit l => cond (l.all (· != 32)) (some [.lit l]) none
  | .cat s (.cat (.lit [32]) (.fn 1 p (.lit 0))) => match wordsST s, toI p with
    | some ws, some t => cond (rangeT t) (some (ws ++ [.fn 1 p (.lit 0)])) none
    | _, _ => none
  | _ => none
theorem words_ok {ρ : Env} (hS : ρ.S = Sx) (hR : RangeG.at ρ) : ∀ {s : ST} {ws : List ST}, wordsST s = some ws → ∃ ls : List (List UInt8), ls ≠ [] ∧ (∀ x ∈ ls, (32 : UInt8) ∉ x) ∧ s.den ρ = bytes (joinW ls) ∧ ws.map (fun w => w.den ρ) = ls.map bytes := by
  intro s
  induction s with
  | lit l =>
    intro ws h
    simp only [wordsST] at h
    cases hb : l.all (· != 32) with
    | false => rw [hb] at h; cases h
    | true =>
      rw [hb] at h; cases h
      refine ⟨[l], by simp, fun x hx => ?_, rfl, rfl⟩
      rw [List.mem_singleton.1 hx]
      intro h32
      have := List.all_eq_true.1 hb 32 h32
      simp at this
  | cat s t ihs _ =>
    intro ws h
    unfold wordsST at h
    split at h
    · rename_i heq; cases heq
    · rename_i s' p heq
      cases heq
      split at h
      rotate_left
      · cases h
      rename_i ws' t' hw ht
      cases hb : rangeT t' with
      | false => rw [hb] at h; cases h
      | true =>
        rw [hb] at h
        simp only [cond_true, Option.some.injEq] at h
        subst h
        obtain ⟨ls, h0, h1, h2, h3⟩ := ihs hw
        have hd := toI_den (ρ := ρ) ht
        obtain ⟨r1, r2⟩ := rangeT_ok hb hR hd
        have hf : (ST.fn 1 p (.lit 0)).den ρ = bytes (Lib.itoa (p.den ρ)) := fn_den hS (k := 1) (p := p) (q := .lit 0) rfl rfl (by show (Lib.itoa (p.den ρ)).length ≤ _; have := itoa_len r1 r2; omega)
        refine ⟨ls ++ [Lib.itoa (p.den ρ)], by simp, fun x hx => ?_, ?_, ?_⟩
        · rcases List.mem_append.1 hx with hx | hx
          · exact h1 x hx
          · rw [List.mem_singleton.1 hx]; exact itoa_blank' _
        · rw [joinW_snoc _ h0]
          show s.den ρ ++ ((ST.lit [32]).den ρ ++ (ST.fn 1 p (.lit 0)).den ρ) = _
          rw [h2, hf]
          apply ByteArray.ext
          simp [bytes, ST.den]
        · rw [List.map_append, List.map_append, h3]
          simp [hf]
    · cases h
  | var i => intro ws h; simp [wordsST] at h
  | fn k a b => intro ws h; simp [wordsST] at h
  | byt a => intro ws h; simp [wordsST] at h
def spSplit : SpG := fun args H nl cs => match args with
  | [.str s, .str (.lit [32])] => match wordsST s, szB s with
    | some ws, some m => cond (Nat.blt m 4294967281) (some [.ret (.slice nl (.lit 0) (.lit (.ofNat ws.length)) (.lit (.ofNat ws.length))) (H.set nl ⟨.cells (ws.map .str) 9 none, true⟩) (nl + 1) cs]) none
    | _, _ => none
  | _ => none
theorem MaxW.of {β : Base} {ρ : Env} {H : Heap} {nl : Nat} {w : World} (h : MaxW β.w0) (hown : β.own = []) (hr : HRel β ρ H nl w) : MaxW w := by
  obtain ⟨m, hm⟩ := h
  refine ⟨m, ?_⟩
  have hb : w.heap[0]? = β.w0.heap[0]? := by
    rcases Nat.lt_or_ge 0 β.w0.heap.size with h1 | h1
    · exact hr.frame 0 h1 fun l hl => by rw [hown] at hl; cases hl
    · have h2 : β.w0.heap[0]? = none := Array.getElem?_eq_none h1
      simp [World.cell?, h2] at hm
  unfold World.cell? at hm ⊢
  simp only [hb]
  exact hm
theorem den_strs {ρ : Env} : ∀ ws : List ST, AVal.denL ρ (ws.map .str) = some (ws.map fun w => Value.string (w.den ρ))
  | [] => rfl
  | w :: r => by simp only [List.map_cons, AVal.denL, AVal.den, den_strs r]
theorem spSplit_ok {β : Base} (hG : ∀ I B S V F, β.G I B S V F → S = Sx ∧ RangeG I B S V F) (hown : β.own = []) (hM : MaxW β.w0) : SpGOk Tryd.prog β 97 spSplit := by
  intro args H nl cs ls ρ w xs hr hx hh hc
  unfold spSplit at hr
  split at hr
  rotate_left
  · cases hr
  rename_i s
  split at hr
  rotate_left
  · cases hr
  rename_i ws m hw hz
  cases hb : Nat.blt m 4294967281 with
  | false => rw [hb] at hr; cases hr
  | true =>
    rw [hb] at hr
    simp only [cond_true, Option.some.injEq] at hr
    subst hr
    obtain ⟨hS, hR⟩ := hG _ _ _ _ _ hh.g
    obtain ⟨l, h0, h1, h2, h3⟩ := words_ok (ρ := ρ) hS hR hw
    have hsz := szB_ok ρ hz
    rw [h2] at hsz
    have hm : m < 4294967281 := nat_blt_lt hb
    have hlen : (joinW l).length < 4294967281 := by
      have : (bytes (joinW l)).size = (joinW l).length := by show (joinW l).toArray.size = _; simp
      omega
    have hws : ws.length = l.length := by
      have := congrArg List.length h3
      simpa using this
    simp only [AVal.denL, AVal.den, h2, Option.some.injEq] at hx
    subst hx
    refine (split97 w (MaxW.of hM hown hh) h0 h1 hlen).mono fun e w' ⟨he, hw'⟩ => ⟨_, he, ?_⟩
    have hv : (l.map fun x => Value.string (bytes x)) = ws.map fun w => Value.string (w.den ρ) := by
      have h4 := congrArg (List.map Value.string) h3
      rw [List.map_map, List.map_map] at h4
      exact h4.symm
    have hle : ρ.Le (ρ.put nl w.heap.size) := Env.le_put (hh.fresh nl (Nat.le_refl _))
    have hrel : (ABlk.cells (ws.map .str) 9 none).rel ρ true (.cells ((l.map fun x => Value.string (bytes x)).toArray) 9) := by
      refine ⟨_, _, (0, 0), rfl, den_strs ws, ?_, ?_, fun _ => .inl (Nat.le_refl _)⟩
      · rw [hv]; exact List.prefix_refl _
      · show ((l.map fun x => Value.string (bytes x)).toArray).size = (ws.map AVal.str).length
        simp [hws]
    have hN := hh.new _ _ true hrel
    refine ⟨_, _, _, _, _, List.mem_cons_self, hle, ?_, by rw [hw']; exact hN, hc.mono hle⟩
    refine den_slice_mk (o := 0) (n := l.length) (c := l.length) (Env.put_same ..) rfl ?_ ?_
    · rw [hws]; rfl
    · rw [hws]; rfl
def numT (t : IT) : BT := inT t 0 999999999
def spNum : SpG := fun args H nl cs => match args with
  | [.str (.fn 1 p (.lit 0))] => match toI p with
    | some t => match lookB cs (numT t) with
      | some true => cond (rangeT t) (some [.ret (.tuple [.int .i64 t, .bool (.lit true)]) H nl cs]) none
      | _ => none
    | none => none
  | _ => none
theorem numT_den {ρ : Env} {t : IT} {x : Int} (h : t.den ρ = some x) : (numT t).den ρ = some (decide (0 ≤ x ∧ x ≤ 999999999)) := by
  simp only [numT, inT, BT.den, IT.den, h, intCmp, Option.some.injEq]
  rw [Bool.eq_iff_iff]; simp
theorem spNum_ok {β : Base} (hG : ∀ I B S V F, β.G I B S V F → S = Sx ∧ RangeG I B S V F) (hown : β.own = []) (hT : TabW β.w0) : SpGOk Tryd.prog β 100 spNum := by
  intro args H nl cs ls ρ w xs hr hx hh hc
  unfold spNum at hr
  split at hr
  rotate_left
  · cases hr
  rename_i p
  split at hr
  rotate_left
  · cases hr
  rename_i t ht
  split at hr
  rotate_left
  · cases hr
  rename_i hl
  cases hb : rangeT t with
  | false => rw [hb] at hr; cases hr
  | true =>
    rw [hb] at hr
    simp only [cond_true, Option.some.injEq] at hr
    subst hr
    obtain ⟨hS, hR⟩ := hG _ _ _ _ _ hh.g
    have hd := toI_den (ρ := ρ) ht
    obtain ⟨h1, h2⟩ := rangeT_ok hb hR hd
    have hf : (ST.fn 1 p (.lit 0)).den ρ = ⟨(Lib.itoa (p.den ρ)).toArray⟩ := fn_den hS (k := 1) (p := p) (q := .lit 0) rfl rfl (by show (Lib.itoa (p.den ρ)).length ≤ _; have := itoa_len h1 h2; omega)
    have c1 := lookB_ok hl hc
    rw [numT_den hd] at c1
    simp only [Option.some.injEq, decide_eq_true_eq] at c1
    simp only [AVal.denL, AVal.den, hf, Option.some.injEq] at hx
    subst hx
    exact spV_ok (number100 w (TabW.of hT hown hh) c1.1 (by omega)) (by simp only [AVal.den, AVal.denL, BT.den, hd, Option.map_some]) hh hc
def spPr : CallF := spL [(45, spA spRight), (97, spSplit), (100, spNum)]
theorem spPr_ok (w : World) (hT : TabW w) (hM : MaxW w) : CallOk Tryd.prog ⟨w, [], GSR⟩ spPr := by
  refine spL_ok fun p hp => ?_
  simp only [List.mem_cons, List.not_mem_nil, or_false] at hp
  rcases hp with rfl | rfl | rfl
  · exact spA_ok (specs05_ok (45, spRight) (by simp [specs05]))
  · exact spSplit_ok (fun _ _ _ _ _ h => h) rfl hM
  · exact spNum_ok (fun _ _ _ _ _ h => h) rfl hT
def RunP (cs : Cs) (s : ST) (j : Nat) (k a b : IT) : Prop := (run Tryd.prog exts05 spPr 8000 false 54 (entry Tryd.f54 (Tryd.f54.body.getD .ret) [.str s] .leaf 0 cs)).map (·.all (retIs (.tuple [.agg [.int .i64 (.lit (.ofNat j)), .int .i64 k, .int .i64 a, .int .i64 b], .bool (.lit true)]))) = some true
def csP (j : Nat) (k a b : IT) : Cs := [(tRight (.lit (.ofNat j)) k a b, true), (numT k, true), (numT a, true), (numT b, true)]
theorem pa0 : RunP (csP 0 (.lit 0) (.lit 0) (.lit 0)) (.lit [110, 111, 110, 101]) 0 (.lit 0) (.lit 0) (.lit 0) := by unfold RunP; kernel_rfl
theorem pa1 : RunP (csP 1 (.lit 0) (.var 2) (.lit 0)) (.cat (.lit [101, 110, 113, 117, 101, 117, 101]) (.cat (.lit [32]) (.fn 1 (.var 2) (.lit 0)))) 1 (.lit 0) (.var 2) (.lit 0) := by unfold RunP; kernel_rfl
theorem pa2 : RunP (csP 2 (.lit 0) (.lit 0) (.lit 0)) (.lit [100, 101, 113, 117, 101, 117, 101]) 2 (.lit 0) (.lit 0) (.lit 0) := by unfold RunP; kernel_rfl
theorem pa3 : RunP (csP 3 (.lit 0) (.lit 0) (.lit 0)) (.lit [108, 101, 110, 103, 116, 104]) 3 (.lit 0) (.lit 0) (.lit 0) := by unfold RunP; kernel_rfl
theorem pa4 : RunP (csP 4 (.var 1) (.lit 0) (.lit 0)) (.cat (.lit [103, 101, 116]) (.cat (.lit [32]) (.fn 1 (.var 1) (.lit 0)))) 4 (.var 1) (.lit 0) (.lit 0) := by unfold RunP; kernel_rfl
theorem pa5 : RunP (csP 5 (.var 1) (.var 2) (.lit 0)) (.cat (.cat (.lit [112, 117, 116]) (.cat (.lit [32]) (.fn 1 (.var 1) (.lit 0)))) (.cat (.lit [32]) (.fn 1 (.var 2) (.lit 0)))) 5 (.var 1) (.var 2) (.lit 0) := by unfold RunP; kernel_rfl
theorem pa6 : RunP (csP 6 (.var 1) (.lit 0) (.lit 0)) (.cat (.lit [100, 101, 108, 101, 116, 101]) (.cat (.lit [32]) (.fn 1 (.var 1) (.lit 0)))) 6 (.var 1) (.lit 0) (.lit 0) := by unfold RunP; kernel_rfl
theorem pa7 : RunP (csP 7 (.var 1) (.var 2) (.var 3)) (.cat (.cat (.cat (.lit [115, 119, 97, 112]) (.cat (.lit [32]) (.fn 1 (.var 1) (.lit 0)))) (.cat (.lit [32]) (.fn 1 (.var 2) (.lit 0)))) (.cat (.lit [32]) (.fn 1 (.var 3) (.lit 0)))) 7 (.var 1) (.var 2) (.var 3) := by unfold RunP; kernel_rfl
theorem pa8 : RunP (csP 8 (.lit 0) (.lit 0) (.lit 0)) (.lit [115, 105, 122, 101]) 8 (.lit 0) (.lit 0) (.lit 0) := by unfold RunP; kernel_rfl
theorem pa9 : RunP (csP 9 (.var 1) (.lit 0) (.lit 0)) (.cat (.lit [102, 108, 111, 111, 114]) (.cat (.lit [32]) (.fn 1 (.var 1) (.lit 0)))) 9 (.var 1) (.lit 0) (.lit 0) := by unfold RunP; kernel_rfl
theorem pa10 : RunP (csP 10 (.var 1) (.var 2) (.lit 0)) (.cat (.cat (.lit [115, 101, 116]) (.cat (.lit [32]) (.fn 1 (.var 1) (.lit 0)))) (.cat (.lit [32]) (.fn 1 (.var 2) (.lit 0)))) 10 (.var 1) (.var 2) (.lit 0) := by unfold RunP; kernel_rfl
theorem pa11 : RunP (csP 11 (.var 1) (.lit 0) (.lit 0)) (.cat (.lit [97, 99, 113, 117, 105, 114, 101]) (.cat (.lit [32]) (.fn 1 (.var 1) (.lit 0)))) 11 (.var 1) (.lit 0) (.lit 0) := by unfold RunP; kernel_rfl
theorem pa12 : RunP (csP 12 (.var 1) (.lit 0) (.lit 0)) (.cat (.lit [114, 101, 108, 101, 97, 115, 101]) (.cat (.lit [32]) (.fn 1 (.var 1) (.lit 0)))) 12 (.var 1) (.lit 0) (.lit 0) := by unfold RunP; kernel_rfl
theorem pa13 : RunP (csP 13 (.var 1) (.lit 0) (.lit 0)) (.cat (.lit [118, 97, 108, 117, 101]) (.cat (.lit [32]) (.fn 1 (.var 1) (.lit 0)))) 13 (.var 1) (.lit 0) (.lit 0) := by unfold RunP; kernel_rfl
theorem pa14 : RunP (csP 14 (.var 1) (.lit 0) (.lit 0)) (.cat (.lit [100, 114, 111, 112]) (.cat (.lit [32]) (.fn 1 (.var 1) (.lit 0)))) 14 (.var 1) (.lit 0) (.lit 0) := by unfold RunP; kernel_rfl
theorem leafP (w : World) (hT : TabW w) (hM : MaxW w) {c k a b : Int} (hk : 0 ≤ k ∧ k ≤ 255) (ha : 0 ≤ a ∧ a ≤ 1023) (hb : 0 ≤ b ∧ b ≤ 1023) {j : Nat} (hj : c = j) (hr : rightB c k a b = true) {s : ST} {l : List UInt8} {tk ta tb : IT} (hrun : RunP (csP j tk ta tb) s j tk ta tb)
    (hd : ∀ ρ : Env, ρ.I 1 = k → ρ.I 2 = a → ρ.I 3 = b → tk.den ρ = some k ∧ ta.den ρ = some a ∧ tb.den ρ = some b)
    (hs : ∀ ρ : Env, ρ.S = Sx → ρ.I 1 = k → ρ.I 2 = a → ρ.I 3 = b → TB ρ s l) : Calls Tryd.prog 54 #[.string ⟨l.toArray⟩] w (fun e w' => e = .returned (.tuple #[opV4 c k a b, .bool true]) ∧ Framed w w') := by
  subst hj
  have hI := hd (env4 0 k a b) rfl rfl rfl
  have h1 := hs (env4 0 k a b) rfl rfl rfl rfl
  refine calls_ret (β := ⟨w, [], GSR⟩) (ρ := env4 0 k a b) exts05_ok (spPr_ok w hT hM) rfl Tryd.func54 rfl hrun (xs := [.string ⟨l.toArray⟩]) ?_ (HRel.startG w _ (fun _ => rfl) (env4_G ⟨by decide, by decide⟩ ⟨by omega, by omega⟩ ⟨by omega, by omega⟩ ⟨by omega, by omega⟩)) (CRel_cons.2 ⟨?_, CRel_cons.2 ⟨?_, CRel_cons.2 ⟨?_, CRel_cons.2 ⟨?_, CRel_nil.2 trivial⟩⟩⟩⟩) (fun ρ' hle => ?_)
  · show (match some (Value.string (s.den (env4 0 k a b))), some ([] : List Value) with
      | some x, some l => some (x :: l)
      | _, _ => none) = _
    rw [show s.den (env4 0 k a b) = _ from h1]
  · exact (tRight_den (c := .lit (.ofNat j)) rfl hI.1 hI.2.1 hI.2.2).trans (congrArg some hr)
  · exact (numT_den hI.1).trans (congrArg some (decide_eq_true ⟨hk.1, by omega⟩))
  · exact (numT_den hI.2.1).trans (congrArg some (decide_eq_true ⟨ha.1, by omega⟩))
  · exact (numT_den hI.2.2).trans (congrArg some (decide_eq_true ⟨hb.1, by omega⟩))
  · obtain ⟨d1, d2, d3⟩ := hd ρ' (by rw [hle.i]; rfl) (by rw [hle.i]; rfl) (by rw [hle.i]; rfl)
    simp only [AVal.den, AVal.denL, d1, d2, d3, BT.den, IT.den, Option.map_some]; rfl
/-- The text of a right operation is read as that operation. -/
theorem parse54 (w : World) (hT : TabW w) (hM : MaxW w) {c k a b : Int} (hr : rightB c k a b = true) : Calls Tryd.prog 54 #[.string ⟨(opTextR c k a b).toArray⟩] w (fun e w' => e = .returned (.tuple #[opV4 c k a b, .bool true]) ∧ Framed w w') := by
  have hd := hr
  simp only [rightB, decide_eq_true_eq] at hd
  obtain ⟨h0, h1, h2, h3, h4, h5, h6, h7, hz⟩ := hd
  have fk : ∀ ρ : Env, ρ.S = Sx → ∀ i x, ρ.I i = x → 0 ≤ x → x < 9223372036854775808 → TB ρ (.fn 1 (.var i) (.lit 0)) (Lib.itoa x) := fun ρ hS i x hi hx hx2 => by
    have hl : (textF 1 x 0).length ≤ 1000000 := by
      show (Lib.itoa x).length ≤ _; have := itoa_len (n := x) (by omega) hx2; omega
    exact fn_den hS (k := 1) (p := .var i) (q := .lit 0) hi rfl hl
  obtain ⟨j, rfl⟩ := Int.eq_ofNat_of_zero_le h0
  have hjl : j < 15 := by omega
  unfold opTextR
  rw [hr]
  simp only [if_true, Int.toNat_natCast]
  rcases (show j = 0 ∨ j = 1 ∨ j = 2 ∨ j = 3 ∨ j = 4 ∨ j = 5 ∨ j = 6 ∨ j = 7 ∨ j = 8 ∨ j = 9 ∨ j = 10 ∨ j = 11 ∨ j = 12 ∨ j = 13 ∨ j = 14 by omega) with rfl | rfl | rfl | rfl | rfl | rfl | rfl | rfl | rfl | rfl | rfl | rfl | rfl | rfl | rfl
  · exact leafP w hT hM ⟨h2, h3⟩ ⟨h4, h5⟩ ⟨h6, h7⟩ rfl hr pa0 (fun ρ e1 e2 e3 => ⟨(by simp only [IT.den]; congr 1; omega), (by simp only [IT.den]; congr 1; omega), (by simp only [IT.den]; congr 1; omega)⟩) fun ρ hS e1 e2 e3 => (by
      have hk := fk ρ hS 1 k e1 h2 (by omega)
      have ha := fk ρ hS 2 a e2 h4 (by omega)
      have hb := fk ρ hS 3 b e3 h6 (by omega)
      exact (tb_lit _ _))
  · exact leafP w hT hM ⟨h2, h3⟩ ⟨h4, h5⟩ ⟨h6, h7⟩ rfl hr pa1 (fun ρ e1 e2 e3 => ⟨(by simp only [IT.den]; congr 1; omega), (by simp only [IT.den, e2]), (by simp only [IT.den]; congr 1; omega)⟩) fun ρ hS e1 e2 e3 => (by
      have hk := fk ρ hS 1 k e1 h2 (by omega)
      have ha := fk ρ hS 2 a e2 h4 (by omega)
      have hb := fk ρ hS 3 b e3 h6 (by omega)
      exact (tb_cat (tb_lit _ _) (tb_cat (tb_lit _ _) ha)))
  · exact leafP w hT hM ⟨h2, h3⟩ ⟨h4, h5⟩ ⟨h6, h7⟩ rfl hr pa2 (fun ρ e1 e2 e3 => ⟨(by simp only [IT.den]; congr 1; omega), (by simp only [IT.den]; congr 1; omega), (by simp only [IT.den]; congr 1; omega)⟩) fun ρ hS e1 e2 e3 => (by
      have hk := fk ρ hS 1 k e1 h2 (by omega)
      have ha := fk ρ hS 2 a e2 h4 (by omega)
      have hb := fk ρ hS 3 b e3 h6 (by omega)
      exact (tb_lit _ _))
  · exact leafP w hT hM ⟨h2, h3⟩ ⟨h4, h5⟩ ⟨h6, h7⟩ rfl hr pa3 (fun ρ e1 e2 e3 => ⟨(by simp only [IT.den]; congr 1; omega), (by simp only [IT.den]; congr 1; omega), (by simp only [IT.den]; congr 1; omega)⟩) fun ρ hS e1 e2 e3 => (by
      have hk := fk ρ hS 1 k e1 h2 (by omega)
      have ha := fk ρ hS 2 a e2 h4 (by omega)
      have hb := fk ρ hS 3 b e3 h6 (by omega)
      exact (tb_lit _ _))
  · exact leafP w hT hM ⟨h2, h3⟩ ⟨h4, h5⟩ ⟨h6, h7⟩ rfl hr pa4 (fun ρ e1 e2 e3 => ⟨(by simp only [IT.den, e1]), (by simp only [IT.den]; congr 1; omega), (by simp only [IT.den]; congr 1; omega)⟩) fun ρ hS e1 e2 e3 => (by
      have hk := fk ρ hS 1 k e1 h2 (by omega)
      have ha := fk ρ hS 2 a e2 h4 (by omega)
      have hb := fk ρ hS 3 b e3 h6 (by omega)
      exact (tb_cat (tb_lit _ _) (tb_cat (tb_lit _ _) hk)))
  · exact leafP w hT hM ⟨h2, h3⟩ ⟨h4, h5⟩ ⟨h6, h7⟩ rfl hr pa5 (fun ρ e1 e2 e3 => ⟨(by simp only [IT.den, e1]), (by simp only [IT.den, e2]), (by simp only [IT.den]; congr 1; omega)⟩) fun ρ hS e1 e2 e3 => (by
      have hk := fk ρ hS 1 k e1 h2 (by omega)
      have ha := fk ρ hS 2 a e2 h4 (by omega)
      have hb := fk ρ hS 3 b e3 h6 (by omega)
      exact (tb_cat (tb_cat (tb_lit _ _) (tb_cat (tb_lit _ _) hk)) (tb_cat (tb_lit _ _) ha)))
  · exact leafP w hT hM ⟨h2, h3⟩ ⟨h4, h5⟩ ⟨h6, h7⟩ rfl hr pa6 (fun ρ e1 e2 e3 => ⟨(by simp only [IT.den, e1]), (by simp only [IT.den]; congr 1; omega), (by simp only [IT.den]; congr 1; omega)⟩) fun ρ hS e1 e2 e3 => (by
      have hk := fk ρ hS 1 k e1 h2 (by omega)
      have ha := fk ρ hS 2 a e2 h4 (by omega)
      have hb := fk ρ hS 3 b e3 h6 (by omega)
      exact (tb_cat (tb_lit _ _) (tb_cat (tb_lit _ _) hk)))
  · exact leafP w hT hM ⟨h2, h3⟩ ⟨h4, h5⟩ ⟨h6, h7⟩ rfl hr pa7 (fun ρ e1 e2 e3 => ⟨(by simp only [IT.den, e1]), (by simp only [IT.den, e2]), (by simp only [IT.den, e3])⟩) fun ρ hS e1 e2 e3 => (by
      have hk := fk ρ hS 1 k e1 h2 (by omega)
      have ha := fk ρ hS 2 a e2 h4 (by omega)
      have hb := fk ρ hS 3 b e3 h6 (by omega)
      exact (tb_cat (tb_cat (tb_cat (tb_lit _ _) (tb_cat (tb_lit _ _) hk)) (tb_cat (tb_lit _ _) ha)) (tb_cat (tb_lit _ _) hb)))
  · exact leafP w hT hM ⟨h2, h3⟩ ⟨h4, h5⟩ ⟨h6, h7⟩ rfl hr pa8 (fun ρ e1 e2 e3 => ⟨(by simp only [IT.den]; congr 1; omega), (by simp only [IT.den]; congr 1; omega), (by simp only [IT.den]; congr 1; omega)⟩) fun ρ hS e1 e2 e3 => (by
      have hk := fk ρ hS 1 k e1 h2 (by omega)
      have ha := fk ρ hS 2 a e2 h4 (by omega)
      have hb := fk ρ hS 3 b e3 h6 (by omega)
      exact (tb_lit _ _))
  · exact leafP w hT hM ⟨h2, h3⟩ ⟨h4, h5⟩ ⟨h6, h7⟩ rfl hr pa9 (fun ρ e1 e2 e3 => ⟨(by simp only [IT.den, e1]), (by simp only [IT.den]; congr 1; omega), (by simp only [IT.den]; congr 1; omega)⟩) fun ρ hS e1 e2 e3 => (by
      have hk := fk ρ hS 1 k e1 h2 (by omega)
      have ha := fk ρ hS 2 a e2 h4 (by omega)
      have hb := fk ρ hS 3 b e3 h6 (by omega)
      exact (tb_cat (tb_lit _ _) (tb_cat (tb_lit _ _) hk)))
  · exact leafP w hT hM ⟨h2, h3⟩ ⟨h4, h5⟩ ⟨h6, h7⟩ rfl hr pa10 (fun ρ e1 e2 e3 => ⟨(by simp only [IT.den, e1]), (by simp only [IT.den, e2]), (by simp only [IT.den]; congr 1; omega)⟩) fun ρ hS e1 e2 e3 => (by
      have hk := fk ρ hS 1 k e1 h2 (by omega)
      have ha := fk ρ hS 2 a e2 h4 (by omega)
      have hb := fk ρ hS 3 b e3 h6 (by omega)
      exact (tb_cat (tb_cat (tb_lit _ _) (tb_cat (tb_lit _ _) hk)) (tb_cat (tb_lit _ _) ha)))
  · exact leafP w hT hM ⟨h2, h3⟩ ⟨h4, h5⟩ ⟨h6, h7⟩ rfl hr pa11 (fun ρ e1 e2 e3 => ⟨(by simp only [IT.den, e1]), (by simp only [IT.den]; congr 1; omega), (by simp only [IT.den]; congr 1; omega)⟩) fun ρ hS e1 e2 e3 => (by
      have hk := fk ρ hS 1 k e1 h2 (by omega)
      have ha := fk ρ hS 2 a e2 h4 (by omega)
      have hb := fk ρ hS 3 b e3 h6 (by omega)
      exact (tb_cat (tb_lit _ _) (tb_cat (tb_lit _ _) hk)))
  · exact leafP w hT hM ⟨h2, h3⟩ ⟨h4, h5⟩ ⟨h6, h7⟩ rfl hr pa12 (fun ρ e1 e2 e3 => ⟨(by simp only [IT.den, e1]), (by simp only [IT.den]; congr 1; omega), (by simp only [IT.den]; congr 1; omega)⟩) fun ρ hS e1 e2 e3 => (by
      have hk := fk ρ hS 1 k e1 h2 (by omega)
      have ha := fk ρ hS 2 a e2 h4 (by omega)
      have hb := fk ρ hS 3 b e3 h6 (by omega)
      exact (tb_cat (tb_lit _ _) (tb_cat (tb_lit _ _) hk)))
  · exact leafP w hT hM ⟨h2, h3⟩ ⟨h4, h5⟩ ⟨h6, h7⟩ rfl hr pa13 (fun ρ e1 e2 e3 => ⟨(by simp only [IT.den, e1]), (by simp only [IT.den]; congr 1; omega), (by simp only [IT.den]; congr 1; omega)⟩) fun ρ hS e1 e2 e3 => (by
      have hk := fk ρ hS 1 k e1 h2 (by omega)
      have ha := fk ρ hS 2 a e2 h4 (by omega)
      have hb := fk ρ hS 3 b e3 h6 (by omega)
      exact (tb_cat (tb_lit _ _) (tb_cat (tb_lit _ _) hk)))
  · exact leafP w hT hM ⟨h2, h3⟩ ⟨h4, h5⟩ ⟨h6, h7⟩ rfl hr pa14 (fun ρ e1 e2 e3 => ⟨(by simp only [IT.den, e1]), (by simp only [IT.den]; congr 1; omega), (by simp only [IT.den]; congr 1; omega)⟩) fun ρ hS e1 e2 e3 => (by
      have hk := fk ρ hS 1 k e1 h2 (by omega)
      have ha := fk ρ hS 2 a e2 h4 (by omega)
      have hb := fk ρ hS 3 b e3 h6 (by omega)
      exact (tb_cat (tb_lit _ _) (tb_cat (tb_lit _ _) hk)))
end Txt
end Go.Proofs.YtagdcclpibjfoaaDoor
