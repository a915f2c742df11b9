/-
  Texts (12): the text of a response is read back.
-/
import Derived.Test.YtagdcclpibjfoaaDoorTx11
namespace Go.Proofs.YtagdcclpibjfoaaDoor
open Go.Vm
namespace Txt

theorem cut_none {l : List UInt8} (h : (32 : UInt8) ∉ l) : Lib.cut l [32] = (l, [], false) := by
  unfold Lib.cut
  rw [Lib.index_one, idx_none h]; rfl
theorem cut_word {w r : List UInt8} (h : (32 : UInt8) ∉ w) : Lib.cut (w ++ 32 :: r) [32] = (w, r, true) := by
  unfold Lib.cut
  rw [Lib.index_one, idx_word r h, if_pos (by omega), Int.toNat_natCast]
  simp
theorem framed_drew (w : World) (n : Nat) : Framed w (w.drewN n) := ⟨Nat.le_refl _, fun _ _ => rfl, rfl, rfl, rfl⟩
def noBl (l : List UInt8) : Bool := l.all (· != 32)
theorem noBl_ok {l : List UInt8} (h : noBl l = true) : (32 : UInt8) ∉ l := fun h32 => by
  have := List.all_eq_true.1 h 32 h32
  simp at this
def spCut : SpG := fun args H nl cs => match args with
  | [.str (.lit l), .str (.lit [32])] => cond (noBl l && Nat.blt l.length 1000000) (some [.ret (.tuple [.str (.lit l), .str (.lit []), .bool (.lit false)]) H nl cs]) none
  | [.str (.cat (.lit l) t), .str (.lit [32])] => cond (noBl l.dropLast && (l.dropLast ++ [32] == l) && Nat.blt l.length 1000000 && (match szB t with
    | some m => Nat.blt m 2000000
    | none => false)) (some [.ret (.tuple [.str (.lit l.dropLast), .str t, .bool (.lit true)]) H nl cs]) none
  | _ => none
theorem bytes_size (l : List UInt8) : (bytes l).size = l.length := by show l.toArray.size = _; simp
theorem cut103 (w : World) (hm : MaxW w) {s : ByteArray} (h : s.size < 4294967281) : Calls Tryd.prog 103 #[.string s, .string (bytes [32])] w (fun e w' => e = .returned (.tuple #[.string ⟨(Lib.cut s.data.toList [32]).1.toArray⟩, .string ⟨(Lib.cut s.data.toList [32]).2.1.toArray⟩, .bool (Lib.cut s.data.toList [32]).2.2]) ∧ Framed w w') := by
  obtain ⟨m, hm⟩ := hm
  exact (Tryd.strings_Cut s (bytes [32]) m w h hm).mono fun e w' ⟨he, n, hw⟩ => ⟨he, by rw [hw]; exact framed_drew w n⟩
theorem spCut_ok {β : Base} (hown : β.own = []) (hM : MaxW β.w0) : SpGOk Tryd.prog β 103 spCut := by
  intro args H nl cs ls ρ w xs hr hx hh hc
  unfold spCut at hr
  split at hr
  · rename_i l
    cases hb : (noBl l && Nat.blt l.length 1000000) with
    | false => rw [hb] at hr; cases hr
    | true =>
      rw [hb] at hr
      simp only [cond_true, Option.some.injEq] at hr
      subst hr
      simp only [Bool.and_eq_true] at hb
      have h1 := noBl_ok hb.1
      have h2 := nat_blt_lt hb.2
      simp only [AVal.denL, AVal.den, ST.den, Option.some.injEq] at hx
      subst hx
      have hq := cut103 w (MaxW.of hM hown hh) (s := bytes l) (by rw [bytes_size]; omega)
      have e : (bytes l).data.toList = l := by simp [bytes]
      rw [e, cut_none h1] at hq
      exact spV_ok hq rfl hh hc
  · rename_i l t
    cases hz : szB t with
    | none => rw [hz] at hr; simp at hr
    | some m =>
    rw [hz] at hr
    cases hb : (noBl l.dropLast && (l.dropLast ++ [32] == l) && Nat.blt l.length 1000000 && Nat.blt m 2000000) with
    | false => simp only [hb] at hr; cases hr
    | true =>
      simp only [hb, cond_true, Option.some.injEq] at hr
      subst hr
      simp only [Bool.and_eq_true, beq_iff_eq] at hb
      obtain ⟨⟨⟨h1, h2⟩, h3⟩, h4⟩ := hb
      have h1 := noBl_ok h1
      have h3 := nat_blt_lt h3
      have h4 := nat_blt_lt h4
      have hs := szB_ok ρ hz
      have hden : (ST.cat (.lit l) t).den ρ = bytes (l.dropLast ++ 32 :: (t.den ρ).data.toList) := by
        show bytes l ++ t.den ρ = _
        apply ByteArray.ext
        have : l = l.dropLast ++ [32] := h2.symm
        conv => lhs; rw [this]
        simp [bytes]
      have hlen : (bytes (l.dropLast ++ 32 :: (t.den ρ).data.toList)).size < 4294967281 := by
        rw [bytes_size]
        have : (t.den ρ).data.toList.length = (t.den ρ).size := by show _ = (t.den ρ).data.size; simp
        simp only [List.length_append, List.length_cons, List.length_dropLast, this]; omega
      simp only [AVal.denL, AVal.den, hden, Option.some.injEq] at hx
      subst hx
      have hq := cut103 w (MaxW.of hM hown hh) hlen
      have e : (bytes (l.dropLast ++ 32 :: (t.den ρ).data.toList)).data.toList = l.dropLast ++ 32 :: (t.den ρ).data.toList := by simp [bytes]
      rw [e, cut_word h1] at hq
      have et : (⟨(t.den ρ).data.toList.toArray⟩ : ByteArray) = t.den ρ := by apply ByteArray.ext; simp
      refine spV_ok hq ?_ hh hc
      simp only [AVal.den, AVal.denL, BT.den, Option.map_some, et]; rfl
  · cases hr
def spPq : CallF := spL [(46, spA spResp), (103, spCut), (100, spNum)]
theorem spPq_ok (w : World) (hT : TabW w) (hM : MaxW w) : CallOk Tryd.prog ⟨w, [], GSR⟩ spPq := by
  refine spL_ok fun p hp => ?_
  simp only [List.mem_cons, List.not_mem_nil, or_false] at hp
  rcases hp with rfl | rfl | rfl
  · exact spA_ok (specs05_ok (46, spResp) (by simp [specs05]))
  · exact spCut_ok rfl hM
  · exact spNum_ok (fun _ _ _ _ _ h => h) rfl hT
def RunQ (cs : Cs) (s : ST) (j : Nat) (v : IT) : Prop := (run Tryd.prog exts05 spPq 8000 false 56 (entry Tryd.f56 (Tryd.f56.body.getD .ret) [.str s] .leaf 0 cs)).map (·.all (retIs (.tuple [.agg [.int .i64 (.lit (.ofNat j)), .int .i64 v], .bool (.lit true)]))) = some true
def csQ (j : Nat) (v : IT) : Cs := [(tResp (.lit (.ofNat j)) v, true), (numT v, true)]
theorem qa0 : RunQ (csQ 0 (.var 1)) (.cat (.lit [100, 111, 110, 101, 32]) (.fn 1 (.var 1) (.lit 0))) 0 (.var 1) := by unfold RunQ; kernel_rfl
theorem qa1 : RunQ (csQ 1 (.lit 0)) (.lit [110, 111, 110, 101]) 1 (.lit 0) := by unfold RunQ; kernel_rfl
theorem qa2 : RunQ (csQ 2 (.lit 0)) (.lit [102, 117, 108, 108]) 2 (.lit 0) := by unfold RunQ; kernel_rfl
theorem qa3 : RunQ (csQ 3 (.lit 0)) (.lit [98, 117, 115, 121]) 3 (.lit 0) := by unfold RunQ; kernel_rfl
theorem qa4 : RunQ (csQ 4 (.var 1)) (.cat (.lit [117, 110, 108, 105, 107, 101, 32]) (.fn 1 (.var 1) (.lit 0))) 4 (.var 1) := by unfold RunQ; kernel_rfl
theorem qa5 : RunQ (csQ 5 (.lit 0)) (.lit [110, 111, 109, 101, 109, 111, 114, 121]) 5 (.lit 0) := by unfold RunQ; kernel_rfl
theorem leafQ (w : World) (hT : TabW w) (hM : MaxW w) {k v : Int} (hv : 0 ≤ v ∧ v ≤ 268435455) {j : Nat} (hj : k = j) (hr : respB k v = true) {s : ST} {l : List UInt8} {t : IT} (hrun : RunQ (csQ j t) s j t)
    (hd : ∀ ρ : Env, ρ.I 1 = v → t.den ρ = some v) (hs : ∀ ρ : Env, ρ.S = Sx → ρ.I 1 = v → TB ρ s l) : Calls Tryd.prog 56 #[.string ⟨l.toArray⟩] w (fun e w' => e = .returned (.tuple #[rsV k v, .bool true]) ∧ Framed w w') := by
  subst hj
  have hI := hd (env4 0 v 0 0) rfl
  have h1 := hs (env4 0 v 0 0) rfl rfl
  refine calls_ret (β := ⟨w, [], GSR⟩) (ρ := env4 0 v 0 0) exts05_ok (spPq_ok w hT hM) rfl Tryd.func56 rfl hrun (xs := [.string ⟨l.toArray⟩]) ?_ (HRel.startG w _ (fun _ => rfl) (env4_G ⟨by decide, by decide⟩ ⟨by omega, by omega⟩ ⟨by decide, by decide⟩ ⟨by decide, by decide⟩)) (CRel_cons.2 ⟨?_, CRel_cons.2 ⟨?_, CRel_nil.2 trivial⟩⟩) (fun ρ' hle => ?_)
  · show (match some (Value.string (s.den (env4 0 v 0 0))), some ([] : List Value) with
      | some x, some l => some (x :: l)
      | _, _ => none) = _
    rw [show s.den (env4 0 v 0 0) = _ from h1]
  · exact (tResp_den (k := .lit (.ofNat j)) rfl hI).trans (congrArg some hr)
  · exact (numT_den hI).trans (congrArg some (decide_eq_true ⟨hv.1, by omega⟩))
  · have d1 := hd ρ' (by rw [hle.i]; rfl)
    simp only [AVal.den, AVal.denL, d1, BT.den, IT.den, Option.map_some]; rfl
/-- The text of a right response is read as that response. -/
theorem parse56 (w : World) (hT : TabW w) (hM : MaxW w) {k v : Int} (hr : respB k v = true) : Calls Tryd.prog 56 #[.string ⟨(respTextR k v).toArray⟩] w (fun e w' => e = .returned (.tuple #[rsV k v, .bool true]) ∧ Framed w w') := by
  have hd := hr
  simp only [respB, decide_eq_true_eq] at hd
  obtain ⟨h0, h1, h2, h3, hz⟩ := hd
  have fk : ∀ ρ : Env, ρ.S = Sx → ∀ i x, ρ.I i = x → 0 ≤ x → x < 9223372036854775808 → TB ρ (.fn 1 (.var i) (.lit 0)) (Lib.itoa x) := fun ρ hS i x hi hx hx2 => by
    have hl : (textF 1 x 0).length ≤ 1000000 := by
      show (Lib.itoa x).length ≤ _; have := itoa_len (n := x) (by omega) hx2; omega
    exact fn_den hS (k := 1) (p := .var i) (q := .lit 0) hi rfl hl
  obtain ⟨j, rfl⟩ := Int.eq_ofNat_of_zero_le h0
  have hjl : j < 6 := by omega
  unfold respTextR
  rw [hr]
  simp only [if_true, Int.toNat_natCast]
  rcases (show j = 0 ∨ j = 1 ∨ j = 2 ∨ j = 3 ∨ j = 4 ∨ j = 5 by omega) with rfl | rfl | rfl | rfl | rfl | rfl
  · exact leafQ w hT hM ⟨h2, h3⟩ rfl hr qa0 (fun ρ e1 => (by simp only [IT.den, e1])) fun ρ hS e1 => (by
      have hv := fk ρ hS 1 v e1 h2 (by omega)
      exact (tb_cat (tb_lit _ _) hv))
  · exact leafQ w hT hM ⟨h2, h3⟩ rfl hr qa1 (fun ρ e1 => (by simp only [IT.den]; congr 1; omega)) fun ρ hS e1 => (by
      have hv := fk ρ hS 1 v e1 h2 (by omega)
      exact (tb_lit _ _))
  · exact leafQ w hT hM ⟨h2, h3⟩ rfl hr qa2 (fun ρ e1 => (by simp only [IT.den]; congr 1; omega)) fun ρ hS e1 => (by
      have hv := fk ρ hS 1 v e1 h2 (by omega)
      exact (tb_lit _ _))
  · exact leafQ w hT hM ⟨h2, h3⟩ rfl hr qa3 (fun ρ e1 => (by simp only [IT.den]; congr 1; omega)) fun ρ hS e1 => (by
      have hv := fk ρ hS 1 v e1 h2 (by omega)
      exact (tb_lit _ _))
  · exact leafQ w hT hM ⟨h2, h3⟩ rfl hr qa4 (fun ρ e1 => (by simp only [IT.den, e1])) fun ρ hS e1 => (by
      have hv := fk ρ hS 1 v e1 h2 (by omega)
      exact (tb_cat (tb_lit _ _) hv))
  · exact leafQ w hT hM ⟨h2, h3⟩ rfl hr qa5 (fun ρ e1 => (by simp only [IT.den]; congr 1; omega)) fun ρ hS e1 => (by
      have hv := fk ρ hS 1 v e1 h2 (by omega)
      exact (tb_lit _ _))

-- UNLIKE OPERATIONS HAVE UNLIKE TEXTS
def opName (c : Nat) : List UInt8 := match c with
  | 0 => [110, 111, 110, 101]
  | 1 => [101, 110, 113, 117, 101, 117, 101]
  | 2 => [100, 101, 113, 117, 101, 117, 101]
  | 3 => [108, 101, 110, 103, 116, 104]
  | 4 => [103, 101, 116]
  | 5 => [112, 117, 116]
  | 6 => [100, 101, 108, 101, 116, 101]
  | 7 => [115, 119, 97, 112]
  | 8 => [115, 105, 122, 101]
  | 9 => [102, 108, 111, 111, 114]
  | 10 => [115, 101, 116]
  | 11 => [97, 99, 113, 117, 105, 114, 101]
  | 12 => [114, 101, 108, 101, 97, 115, 101]
  | 13 => [118, 97, 108, 117, 101]
  | 14 => [100, 114, 111, 112]
  | _ => []
def opWords (c : Nat) (k a b : Int) : List (List UInt8) := match c with
  | 0 => [opName 0]
  | 1 => [opName 1, Lib.itoa a]
  | 2 => [opName 2]
  | 3 => [opName 3]
  | 4 => [opName 4, Lib.itoa k]
  | 5 => [opName 5, Lib.itoa k, Lib.itoa a]
  | 6 => [opName 6, Lib.itoa k]
  | 7 => [opName 7, Lib.itoa k, Lib.itoa a, Lib.itoa b]
  | 8 => [opName 8]
  | 9 => [opName 9, Lib.itoa k]
  | 10 => [opName 10, Lib.itoa k, Lib.itoa a]
  | 11 => [opName 11, Lib.itoa k]
  | 12 => [opName 12, Lib.itoa k]
  | 13 => [opName 13, Lib.itoa k]
  | 14 => [opName 14, Lib.itoa k]
  | _ => []
theorem opText_join (c : Nat) (k a b : Int) : opText c k a b = joinW (opWords c k a b) := by
  unfold opText opWords
  split <;> simp [joinW, opName]
theorem opWords_blank (c : Nat) (k a b : Int) : ∀ x ∈ opWords c k a b, (32 : UInt8) ∉ x := by
  intro x hx
  have hi := fun n => itoa_blank' n
  unfold opWords at hx
  split at hx <;> simp only [List.mem_cons, List.not_mem_nil, or_false] at hx <;> rcases hx with rfl | rfl | rfl | rfl <;> first | exact hi _ | (unfold opName; decide)
theorem bytes_inj {a b : List UInt8} (h : bytes a = bytes b) : a = b := by
  have := congrArg (fun x : ByteArray => x.data.toList) h
  simpa [bytes] using this
theorem join_inj {a b : List (List UInt8)} (ha : a ≠ []) (hb : b ≠ []) (h1 : ∀ x ∈ a, (32 : UInt8) ∉ x) (h2 : ∀ x ∈ b, (32 : UInt8) ∉ x) (h : joinW a = joinW b) : a = b := by
  have s1 := split_join ha h1
  have s2 := split_join hb h2
  have c1 := count_join h1
  have c2 := count_join h2
  rw [h] at s1 c1
  rw [← c1] at s1
  rw [← c2] at s2
  have := s1.symm.trans s2
  have inj : ∀ {x y : List (List UInt8)}, x.map bytes = y.map bytes → x = y := by
    intro x
    induction x with
    | nil => intro y h; cases y <;> simp at h; rfl
    | cons p x ih =>
      intro y h
      cases y with
      | nil => simp at h
      | cons q y =>
        simp only [List.map_cons, List.cons.injEq] at h
        rw [bytes_inj h.1, ih h.2]
  exact inj this
theorem itoa_inj {x y : Int} (hx : 0 ≤ x) (hy : 0 ≤ y) (h : Lib.itoa x = Lib.itoa y) : x = y := by
  have h1 := atoi_itoa hx
  rw [h, atoi_itoa hy] at h1
  exact (Option.some.inj h1).symm
end Txt
end Go.Proofs.YtagdcclpibjfoaaDoor
