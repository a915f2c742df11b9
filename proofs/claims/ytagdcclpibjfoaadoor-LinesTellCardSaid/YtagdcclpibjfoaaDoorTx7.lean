/-
  Texts (7): the texts of records.
-/
import Derived.Test.YtagdcclpibjfoaaDoorTx6
namespace Go.Proofs.YtagdcclpibjfoaaDoor
open Go.Vm
namespace Txt

theorem CRel_app {ρ : Env} {a b : Cs} : CRel ρ (a ++ b) ↔ CRel ρ a ∧ CRel ρ b :=
  ⟨fun h => ⟨fun p hp => h p (List.mem_append.2 (.inl hp)), fun p hp => h p (List.mem_append.2 (.inr hp))⟩, fun h p hp => (List.mem_append.1 hp).elim (h.1 p) (h.2 p)⟩
theorem TB.eq {ρ : Env} {s : ST} {l m : List UInt8} (h : TB ρ s l) (e : l = m) : TB ρ s m := e ▸ h
/-- A record's text: its numbers are 0 who, 1 kind, 2 to 5 the operation, 6 the other one, 7 start, 8 end, 9 and 10 the response, 11 the error, 12 steps. -/
def recHead (f : Nat → Int) : List UInt8 := if f 1 = 1 then [106, 111, 105, 110] else if f 1 = 2 then [105, 110, 118, 111, 107, 101, 32] ++ opTextR (f 2) (f 3) (f 4) (f 5) else if f 1 = 3 then [108, 101, 97, 118, 101] else [97, 100, 111, 112, 116, 32] ++ Lib.itoa (f 6)
def recTail (f : Nat → Int) : List UInt8 := if f 8 < 0 then [45, 32] ++ (Lib.itoa (f 12) ++ [32, 111, 112, 101, 110]) else Lib.itoa (f 8) ++ ([32] ++ (Lib.itoa (f 12) ++ ([32] ++ (if f 11 ≠ 0 then [33] ++ Lib.itoa (f 11) else if f 1 = 2 then respTextR (f 9) (f 10) else [111, 107]))))
def recText (f : Nat → Int) : List UInt8 := if 1 ≤ f 1 ∧ f 1 ≤ 4 then Lib.itoa (f 0) ++ ([32] ++ (recHead f ++ ([32] ++ (Lib.itoa (f 7) ++ ([32] ++ recTail f))))) else [63]
def recV (f : Nat → Int) (z : Int) : Value := .agg #[.int .i64 (f 0), .int .i64 (f 1), .int .i64 (f 2), .int .i64 (f 3), .int .i64 (f 4), .int .i64 (f 5), .int .i64 (f 6), .int .i64 (f 7), .int .i64 (f 8), .int .i64 (f 9), .int .i64 (f 10), .int .i64 (f 11), .int .i64 (f 12), .int .i64 (f 13), .int .i64 (f 14), .int .u64 z]
def recA : AVal := .agg [iv 0, iv 1, iv 2, iv 3, iv 4, iv 5, iv 6, iv 7, iv 8, iv 9, iv 10, iv 11, iv 12, iv 13, iv 14, .int .u64 (.var 15)]
def kT (n : Int) : BT := .cmp .eql (.var 1) (.lit n)
def csK : Nat → Cs
  | 1 => [(.cmp .lss (.var 1) (.lit 1), false), (.cmp .gtr (.var 1) (.lit 4), false), (kT 1, true), (kT 2, false), (kT 3, false), (kT 4, false)]
  | 2 => [(.cmp .lss (.var 1) (.lit 1), false), (.cmp .gtr (.var 1) (.lit 4), false), (kT 1, false), (kT 2, true), (kT 3, false), (kT 4, false)]
  | 3 => [(.cmp .lss (.var 1) (.lit 1), false), (.cmp .gtr (.var 1) (.lit 4), false), (kT 1, false), (kT 2, false), (kT 3, true), (kT 4, false)]
  | 4 => [(.cmp .lss (.var 1) (.lit 1), false), (.cmp .gtr (.var 1) (.lit 4), false), (kT 1, false), (kT 2, false), (kT 3, false), (kT 4, true)]
  | _ => []
def csE : Nat → Cs
  | 0 => [(.not (.cmp .geq (.var 8) (.lit 0)), true), (.not (.cmp .gtr (.var 8) (.lit (-1))), true)]
  | 1 => [(.not (.cmp .geq (.var 8) (.lit 0)), false), (.not (.cmp .gtr (.var 8) (.lit (-1))), false), (.cmp .neq (.var 11) (.lit 0), true)]
  | 2 => [(.not (.cmp .geq (.var 8) (.lit 0)), false), (.not (.cmp .gtr (.var 8) (.lit (-1))), false), (.cmp .neq (.var 11) (.lit 0), false)]
  | _ => []
def csQ1 : Cs := [(.cmp .lss (.var 1) (.lit 1), true), (kT 1, false), (kT 2, false), (kT 3, false), (kT 4, false)]
def csQ2 : Cs := [(.cmp .lss (.var 1) (.lit 1), false), (.cmp .gtr (.var 1) (.lit 4), true), (kT 1, false), (kT 2, false), (kT 3, false), (kT 4, false)]
noncomputable def envR (f : Nat → Int) (z : Int) : Env := ⟨fun i => if i < 15 then f i else if i = 15 then z else 0, fun _ => false, Sx, fun _ => undef, fun _ => none, fun _ x y => prI x y⟩
abbrev InI (x : Int) : Prop := -9223372036854775808 ≤ x ∧ x < 9223372036854775808
theorem envR_G {f : Nat → Int} {z : Int} (hf : ∀ i, i < 15 → InI (f i)) : GT.at (envR f z) := by
  refine ⟨⟨rfl, fun i hi => ?_, fun n _ => ?_, fun x n _ => ?_⟩, fun _ _ => rfl⟩
  · show InI (if i < 15 then f i else if i = 15 then z else 0)
    split
    · rename_i h; exact hf i h
    · exact ⟨by decide, by decide⟩
  · show InI (selI undef n)
    simp [selI, undef, InI]
  · show InI (selI undef n)
    simp [selI, undef, InI]
theorem envR_den (f : Nat → Int) (z : Int) : AVal.denL (envR f z) [recA] = some [recV f z] := rfl
def spX18 : CallF := spL [(58, spOpT), (60, spRespT), (74, spItoa)]
def RunX18 (cs : Cs) (s : ST) : Prop := (run Tryd.prog [] spX18 8000 false 18 (entry Tryd.f18 (Tryd.f18.body.getD .ret) [recA] .leaf 0 cs)).map (·.all (retIs (.str s))) = some true
theorem hx10 : RunX18 (csK 1 ++ csE 0) (.cat (.cat (.cat (.cat (.cat (.cat (.fn 1 (.var 0) (.lit 0)) (.lit [32])) (.lit [106, 111, 105, 110])) (.lit [32])) (.fn 1 (.var 7) (.lit 0))) (.lit [32])) (.cat (.cat (.lit [45]) (.cat (.cat (.lit [32]) (.fn 1 (.var 12) (.lit 0))) (.lit [32]))) (.lit [111, 112, 101, 110]))) := by unfold RunX18; kernel_rfl
theorem hx11 : RunX18 (csK 1 ++ csE 1) (.cat (.cat (.cat (.cat (.cat (.cat (.fn 1 (.var 0) (.lit 0)) (.lit [32])) (.lit [106, 111, 105, 110])) (.lit [32])) (.fn 1 (.var 7) (.lit 0))) (.lit [32])) (.cat (.cat (.cat (.fn 1 (.var 8) (.lit 0)) (.cat (.cat (.lit [32]) (.fn 1 (.var 12) (.lit 0))) (.lit [32]))) (.lit [33])) (.fn 1 (.var 11) (.lit 0)))) := by unfold RunX18; kernel_rfl
theorem hx12 : RunX18 (csK 1 ++ csE 2) (.cat (.cat (.cat (.cat (.cat (.cat (.fn 1 (.var 0) (.lit 0)) (.lit [32])) (.lit [106, 111, 105, 110])) (.lit [32])) (.fn 1 (.var 7) (.lit 0))) (.lit [32])) (.cat (.cat (.fn 1 (.var 8) (.lit 0)) (.cat (.cat (.lit [32]) (.fn 1 (.var 12) (.lit 0))) (.lit [32]))) (.lit [111, 107]))) := by unfold RunX18; kernel_rfl
theorem hx20 : RunX18 (csK 2 ++ csE 0) (.cat (.cat (.cat (.cat (.cat (.cat (.fn 1 (.var 0) (.lit 0)) (.lit [32])) (.cat (.lit [105, 110, 118, 111, 107, 101, 32]) (.fn 3 (.fn 9 (.var 2) (.var 3)) (.fn 9 (.var 4) (.var 5))))) (.lit [32])) (.fn 1 (.var 7) (.lit 0))) (.lit [32])) (.cat (.cat (.lit [45]) (.cat (.cat (.lit [32]) (.fn 1 (.var 12) (.lit 0))) (.lit [32]))) (.lit [111, 112, 101, 110]))) := by unfold RunX18; kernel_rfl
theorem hx21 : RunX18 (csK 2 ++ csE 1) (.cat (.cat (.cat (.cat (.cat (.cat (.fn 1 (.var 0) (.lit 0)) (.lit [32])) (.cat (.lit [105, 110, 118, 111, 107, 101, 32]) (.fn 3 (.fn 9 (.var 2) (.var 3)) (.fn 9 (.var 4) (.var 5))))) (.lit [32])) (.fn 1 (.var 7) (.lit 0))) (.lit [32])) (.cat (.cat (.cat (.fn 1 (.var 8) (.lit 0)) (.cat (.cat (.lit [32]) (.fn 1 (.var 12) (.lit 0))) (.lit [32]))) (.lit [33])) (.fn 1 (.var 11) (.lit 0)))) := by unfold RunX18; kernel_rfl
theorem hx22 : RunX18 (csK 2 ++ csE 2) (.cat (.cat (.cat (.cat (.cat (.cat (.fn 1 (.var 0) (.lit 0)) (.lit [32])) (.cat (.lit [105, 110, 118, 111, 107, 101, 32]) (.fn 3 (.fn 9 (.var 2) (.var 3)) (.fn 9 (.var 4) (.var 5))))) (.lit [32])) (.fn 1 (.var 7) (.lit 0))) (.lit [32])) (.cat (.cat (.fn 1 (.var 8) (.lit 0)) (.cat (.cat (.lit [32]) (.fn 1 (.var 12) (.lit 0))) (.lit [32]))) (.fn 4 (.var 9) (.var 10)))) := by unfold RunX18; kernel_rfl
theorem hx30 : RunX18 (csK 3 ++ csE 0) (.cat (.cat (.cat (.cat (.cat (.cat (.fn 1 (.var 0) (.lit 0)) (.lit [32])) (.lit [108, 101, 97, 118, 101])) (.lit [32])) (.fn 1 (.var 7) (.lit 0))) (.lit [32])) (.cat (.cat (.lit [45]) (.cat (.cat (.lit [32]) (.fn 1 (.var 12) (.lit 0))) (.lit [32]))) (.lit [111, 112, 101, 110]))) := by unfold RunX18; kernel_rfl
theorem hx31 : RunX18 (csK 3 ++ csE 1) (.cat (.cat (.cat (.cat (.cat (.cat (.fn 1 (.var 0) (.lit 0)) (.lit [32])) (.lit [108, 101, 97, 118, 101])) (.lit [32])) (.fn 1 (.var 7) (.lit 0))) (.lit [32])) (.cat (.cat (.cat (.fn 1 (.var 8) (.lit 0)) (.cat (.cat (.lit [32]) (.fn 1 (.var 12) (.lit 0))) (.lit [32]))) (.lit [33])) (.fn 1 (.var 11) (.lit 0)))) := by unfold RunX18; kernel_rfl
theorem hx32 : RunX18 (csK 3 ++ csE 2) (.cat (.cat (.cat (.cat (.cat (.cat (.fn 1 (.var 0) (.lit 0)) (.lit [32])) (.lit [108, 101, 97, 118, 101])) (.lit [32])) (.fn 1 (.var 7) (.lit 0))) (.lit [32])) (.cat (.cat (.fn 1 (.var 8) (.lit 0)) (.cat (.cat (.lit [32]) (.fn 1 (.var 12) (.lit 0))) (.lit [32]))) (.lit [111, 107]))) := by unfold RunX18; kernel_rfl
theorem hx40 : RunX18 (csK 4 ++ csE 0) (.cat (.cat (.cat (.cat (.cat (.cat (.fn 1 (.var 0) (.lit 0)) (.lit [32])) (.cat (.lit [97, 100, 111, 112, 116, 32]) (.fn 1 (.var 6) (.lit 0)))) (.lit [32])) (.fn 1 (.var 7) (.lit 0))) (.lit [32])) (.cat (.cat (.lit [45]) (.cat (.cat (.lit [32]) (.fn 1 (.var 12) (.lit 0))) (.lit [32]))) (.lit [111, 112, 101, 110]))) := by unfold RunX18; kernel_rfl
theorem hx41 : RunX18 (csK 4 ++ csE 1) (.cat (.cat (.cat (.cat (.cat (.cat (.fn 1 (.var 0) (.lit 0)) (.lit [32])) (.cat (.lit [97, 100, 111, 112, 116, 32]) (.fn 1 (.var 6) (.lit 0)))) (.lit [32])) (.fn 1 (.var 7) (.lit 0))) (.lit [32])) (.cat (.cat (.cat (.fn 1 (.var 8) (.lit 0)) (.cat (.cat (.lit [32]) (.fn 1 (.var 12) (.lit 0))) (.lit [32]))) (.lit [33])) (.fn 1 (.var 11) (.lit 0)))) := by unfold RunX18; kernel_rfl
theorem hx42 : RunX18 (csK 4 ++ csE 2) (.cat (.cat (.cat (.cat (.cat (.cat (.fn 1 (.var 0) (.lit 0)) (.lit [32])) (.cat (.lit [97, 100, 111, 112, 116, 32]) (.fn 1 (.var 6) (.lit 0)))) (.lit [32])) (.fn 1 (.var 7) (.lit 0))) (.lit [32])) (.cat (.cat (.fn 1 (.var 8) (.lit 0)) (.cat (.cat (.lit [32]) (.fn 1 (.var 12) (.lit 0))) (.lit [32]))) (.lit [111, 107]))) := by unfold RunX18; kernel_rfl
theorem hq1 : RunX18 csQ1 (.lit [63]) := by unfold RunX18; kernel_rfl
theorem hq2 : RunX18 csQ2 (.lit [63]) := by unfold RunX18; kernel_rfl
theorem spX18_ok (w : World) (hw : TabW w) : CallOk Tryd.prog ⟨w, [], GT⟩ spX18 := by
  refine spL_ok fun p hp => ?_
  simp only [List.mem_cons, List.not_mem_nil, or_false] at hp
  rcases hp with rfl | rfl | rfl
  · exact spOpT_ok (fun _ _ _ _ _ h => h) fun hh c k a b h1 h2 h3 h4 => text58 _ (TabW.of hw rfl hh) h1 h2 h3 h4
  · exact spRespT_ok (fun _ _ _ _ _ h => h) fun hh k v h1 h2 => text60 _ (TabW.of hw rfl hh) h1 h2
  · exact spText_ok (fun _ _ _ _ _ h => h.1) fun hh n h1 h2 => itoa74 (TabW.of hw rfl hh) n h1 h2
theorem leafX18 (w : World) (hw : TabW w) {f : Nat → Int} {z : Int} (hf : ∀ i, i < 15 → InI (f i)) {cs : Cs} {s : ST} {l : List UInt8} (hrun : RunX18 cs s) (hc : CRel (envR f z) cs)
    (hs : ∀ ρ : Env, (∀ i, i < 15 → TB ρ (.fn 1 (.var i) (.lit 0)) (Lib.itoa (f i))) → TB ρ (.fn 3 (.fn 9 (.var 2) (.var 3)) (.fn 9 (.var 4) (.var 5))) (opTextR (f 2) (f 3) (f 4) (f 5)) → TB ρ (.fn 4 (.var 9) (.var 10)) (respTextR (f 9) (f 10)) → TB ρ s l) :
    Calls Tryd.prog 18 #[recV f z] w (fun e w' => e = .returned (.string ⟨l.toArray⟩) ∧ Framed w w') := by
  refine calls_ret (β := ⟨w, [], GT⟩) (ρ := envR f z) noExt (spX18_ok w hw ) rfl Tryd.func18 rfl hrun (xs := [recV f z]) (envR_den f z) (HRel.startG w _ (fun _ => rfl) (envR_G hf)) hc (fun ρ' hle => ?_)
  have hS : ρ'.S = Sx := hle.s
  have hF : ∀ x y, ρ'.F 9 x y = prI x y := fun x y => by rw [hle.f]; rfl
  have hI : ∀ i, i < 15 → ρ'.I i = f i := fun i hi => by rw [hle.i]; show (if i < 15 then f i else _) = _; rw [if_pos hi]
  have h1 := hs ρ' (fun i hi => by
    have h := fn_den hS (k := 1) (p := .var i) (q := .lit 0) (hI i hi) rfl (by show (Lib.itoa (f i)).length ≤ _; have := itoa_len (hf i hi).1 (hf i hi).2; omega)
    exact h) (by
    have h := op_den hS hF (.var 2) (.var 3) (.var 4) (.var 5)
    simp only [PT.den, hI 2 (by decide), hI 3 (by decide), hI 4 (by decide), hI 5 (by decide)] at h
    exact h) (by
    have h := resp_den hS (.var 9) (.var 10)
    simp only [PT.den, hI 9 (by decide), hI 10 (by decide)] at h
    exact h)
  show some (Value.string (s.den ρ')) = _
  rw [show s.den ρ' = _ from h1]
theorem recText18 (w : World) (hw : TabW w) {f : Nat → Int} {z : Int} (hf : ∀ i, i < 15 → InI (f i)) : Calls Tryd.prog 18 #[recV f z] w (fun e w' => e = .returned (.string ⟨(recText f).toArray⟩) ∧ Framed w w') := by
  have e1 : (envR f z).I 1 = f 1 := rfl
  have e8 : (envR f z).I 8 = f 8 := rfl
  have e11 : (envR f z).I 11 = f 11 := rfl
  rcases (show f 1 = 1 ∨ f 1 = 2 ∨ f 1 = 3 ∨ f 1 = 4 ∨ f 1 < 1 ∨ 4 < f 1 by omega) with h1 | h1 | h1 | h1 | h1 | h1
  · by_cases h8 : f 8 < 0
    · refine leafX18 w hw hf hx10 ?_ fun ρ t1 t3 t4 => TB.eq (tb_cat (tb_cat (tb_cat (tb_cat (tb_cat (tb_cat (t1 0 (by decide)) (tb_lit _ _)) (tb_lit _ _)) (tb_lit _ _)) (t1 7 (by decide))) (tb_lit _ _)) (tb_cat (tb_cat (tb_lit _ _) (tb_cat (tb_cat (tb_lit _ _) (t1 12 (by decide))) (tb_lit _ _))) (tb_lit _ _))) ?_
      · simp [csK, csE, kT, CRel_cons, CRel_nil, BT.den, IT.den, intCmp, e1, e8, h1, h8] <;> (repeat' apply And.intro) <;> first | rfl | omega
      · simp [recText, recHead, recTail, h1, h8]
    · have h8' : ¬ f 8 < 0 := h8
      by_cases h11 : f 11 = 0
      · refine leafX18 w hw hf hx12 ?_ fun ρ t1 t3 t4 => TB.eq (tb_cat (tb_cat (tb_cat (tb_cat (tb_cat (tb_cat (t1 0 (by decide)) (tb_lit _ _)) (tb_lit _ _)) (tb_lit _ _)) (t1 7 (by decide))) (tb_lit _ _)) (tb_cat (tb_cat (t1 8 (by decide)) (tb_cat (tb_cat (tb_lit _ _) (t1 12 (by decide))) (tb_lit _ _))) (tb_lit _ _))) ?_
        · simp [csK, csE, kT, CRel_cons, CRel_nil, BT.den, IT.den, intCmp, e1, e8, e11, h1, h11] <;> (repeat' apply And.intro) <;> first | rfl | omega
        · simp [recText, recHead, recTail, h1, h8', h11]
      · refine leafX18 w hw hf hx11 ?_ fun ρ t1 t3 t4 => TB.eq (tb_cat (tb_cat (tb_cat (tb_cat (tb_cat (tb_cat (t1 0 (by decide)) (tb_lit _ _)) (tb_lit _ _)) (tb_lit _ _)) (t1 7 (by decide))) (tb_lit _ _)) (tb_cat (tb_cat (tb_cat (t1 8 (by decide)) (tb_cat (tb_cat (tb_lit _ _) (t1 12 (by decide))) (tb_lit _ _))) (tb_lit _ _)) (t1 11 (by decide)))) ?_
        · simp [csK, csE, kT, CRel_cons, CRel_nil, BT.den, IT.den, intCmp, e1, e8, e11, h1, h11] <;> (repeat' apply And.intro) <;> first | rfl | omega
        · simp [recText, recHead, recTail, h1, h8', h11]
  · by_cases h8 : f 8 < 0
    · refine leafX18 w hw hf hx20 ?_ fun ρ t1 t3 t4 => TB.eq (tb_cat (tb_cat (tb_cat (tb_cat (tb_cat (tb_cat (t1 0 (by decide)) (tb_lit _ _)) (tb_cat (tb_lit _ _) t3)) (tb_lit _ _)) (t1 7 (by decide))) (tb_lit _ _)) (tb_cat (tb_cat (tb_lit _ _) (tb_cat (tb_cat (tb_lit _ _) (t1 12 (by decide))) (tb_lit _ _))) (tb_lit _ _))) ?_
      · simp [csK, csE, kT, CRel_cons, CRel_nil, BT.den, IT.den, intCmp, e1, e8, h1, h8] <;> (repeat' apply And.intro) <;> first | rfl | omega
      · simp [recText, recHead, recTail, h1, h8]
    · have h8' : ¬ f 8 < 0 := h8
      by_cases h11 : f 11 = 0
      · refine leafX18 w hw hf hx22 ?_ fun ρ t1 t3 t4 => TB.eq (tb_cat (tb_cat (tb_cat (tb_cat (tb_cat (tb_cat (t1 0 (by decide)) (tb_lit _ _)) (tb_cat (tb_lit _ _) t3)) (tb_lit _ _)) (t1 7 (by decide))) (tb_lit _ _)) (tb_cat (tb_cat (t1 8 (by decide)) (tb_cat (tb_cat (tb_lit _ _) (t1 12 (by decide))) (tb_lit _ _))) t4)) ?_
        · simp [csK, csE, kT, CRel_cons, CRel_nil, BT.den, IT.den, intCmp, e1, e8, e11, h1, h11] <;> (repeat' apply And.intro) <;> first | rfl | omega
        · simp [recText, recHead, recTail, h1, h8', h11]
      · refine leafX18 w hw hf hx21 ?_ fun ρ t1 t3 t4 => TB.eq (tb_cat (tb_cat (tb_cat (tb_cat (tb_cat (tb_cat (t1 0 (by decide)) (tb_lit _ _)) (tb_cat (tb_lit _ _) t3)) (tb_lit _ _)) (t1 7 (by decide))) (tb_lit _ _)) (tb_cat (tb_cat (tb_cat (t1 8 (by decide)) (tb_cat (tb_cat (tb_lit _ _) (t1 12 (by decide))) (tb_lit _ _))) (tb_lit _ _)) (t1 11 (by decide)))) ?_
        · simp [csK, csE, kT, CRel_cons, CRel_nil, BT.den, IT.den, intCmp, e1, e8, e11, h1, h11] <;> (repeat' apply And.intro) <;> first | rfl | omega
        · simp [recText, recHead, recTail, h1, h8', h11]
  · by_cases h8 : f 8 < 0
    · refine leafX18 w hw hf hx30 ?_ fun ρ t1 t3 t4 => TB.eq (tb_cat (tb_cat (tb_cat (tb_cat (tb_cat (tb_cat (t1 0 (by decide)) (tb_lit _ _)) (tb_lit _ _)) (tb_lit _ _)) (t1 7 (by decide))) (tb_lit _ _)) (tb_cat (tb_cat (tb_lit _ _) (tb_cat (tb_cat (tb_lit _ _) (t1 12 (by decide))) (tb_lit _ _))) (tb_lit _ _))) ?_
      · simp [csK, csE, kT, CRel_cons, CRel_nil, BT.den, IT.den, intCmp, e1, e8, h1, h8] <;> (repeat' apply And.intro) <;> first | rfl | omega
      · simp [recText, recHead, recTail, h1, h8]
    · have h8' : ¬ f 8 < 0 := h8
      by_cases h11 : f 11 = 0
      · refine leafX18 w hw hf hx32 ?_ fun ρ t1 t3 t4 => TB.eq (tb_cat (tb_cat (tb_cat (tb_cat (tb_cat (tb_cat (t1 0 (by decide)) (tb_lit _ _)) (tb_lit _ _)) (tb_lit _ _)) (t1 7 (by decide))) (tb_lit _ _)) (tb_cat (tb_cat (t1 8 (by decide)) (tb_cat (tb_cat (tb_lit _ _) (t1 12 (by decide))) (tb_lit _ _))) (tb_lit _ _))) ?_
        · simp [csK, csE, kT, CRel_cons, CRel_nil, BT.den, IT.den, intCmp, e1, e8, e11, h1, h11] <;> (repeat' apply And.intro) <;> first | rfl | omega
        · simp [recText, recHead, recTail, h1, h8', h11]
      · refine leafX18 w hw hf hx31 ?_ fun ρ t1 t3 t4 => TB.eq (tb_cat (tb_cat (tb_cat (tb_cat (tb_cat (tb_cat (t1 0 (by decide)) (tb_lit _ _)) (tb_lit _ _)) (tb_lit _ _)) (t1 7 (by decide))) (tb_lit _ _)) (tb_cat (tb_cat (tb_cat (t1 8 (by decide)) (tb_cat (tb_cat (tb_lit _ _) (t1 12 (by decide))) (tb_lit _ _))) (tb_lit _ _)) (t1 11 (by decide)))) ?_
        · simp [csK, csE, kT, CRel_cons, CRel_nil, BT.den, IT.den, intCmp, e1, e8, e11, h1, h11] <;> (repeat' apply And.intro) <;> first | rfl | omega
        · simp [recText, recHead, recTail, h1, h8', h11]
  · by_cases h8 : f 8 < 0
    · refine leafX18 w hw hf hx40 ?_ fun ρ t1 t3 t4 => TB.eq (tb_cat (tb_cat (tb_cat (tb_cat (tb_cat (tb_cat (t1 0 (by decide)) (tb_lit _ _)) (tb_cat (tb_lit _ _) (t1 6 (by decide)))) (tb_lit _ _)) (t1 7 (by decide))) (tb_lit _ _)) (tb_cat (tb_cat (tb_lit _ _) (tb_cat (tb_cat (tb_lit _ _) (t1 12 (by decide))) (tb_lit _ _))) (tb_lit _ _))) ?_
      · simp [csK, csE, kT, CRel_cons, CRel_nil, BT.den, IT.den, intCmp, e1, e8, h1, h8] <;> (repeat' apply And.intro) <;> first | rfl | omega
      · simp [recText, recHead, recTail, h1, h8]
    · have h8' : ¬ f 8 < 0 := h8
      by_cases h11 : f 11 = 0
      · refine leafX18 w hw hf hx42 ?_ fun ρ t1 t3 t4 => TB.eq (tb_cat (tb_cat (tb_cat (tb_cat (tb_cat (tb_cat (t1 0 (by decide)) (tb_lit _ _)) (tb_cat (tb_lit _ _) (t1 6 (by decide)))) (tb_lit _ _)) (t1 7 (by decide))) (tb_lit _ _)) (tb_cat (tb_cat (t1 8 (by decide)) (tb_cat (tb_cat (tb_lit _ _) (t1 12 (by decide))) (tb_lit _ _))) (tb_lit _ _))) ?_
        · simp [csK, csE, kT, CRel_cons, CRel_nil, BT.den, IT.den, intCmp, e1, e8, e11, h1, h11] <;> (repeat' apply And.intro) <;> first | rfl | omega
        · simp [recText, recHead, recTail, h1, h8', h11]
      · refine leafX18 w hw hf hx41 ?_ fun ρ t1 t3 t4 => TB.eq (tb_cat (tb_cat (tb_cat (tb_cat (tb_cat (tb_cat (t1 0 (by decide)) (tb_lit _ _)) (tb_cat (tb_lit _ _) (t1 6 (by decide)))) (tb_lit _ _)) (t1 7 (by decide))) (tb_lit _ _)) (tb_cat (tb_cat (tb_cat (t1 8 (by decide)) (tb_cat (tb_cat (tb_lit _ _) (t1 12 (by decide))) (tb_lit _ _))) (tb_lit _ _)) (t1 11 (by decide)))) ?_
        · simp [csK, csE, kT, CRel_cons, CRel_nil, BT.den, IT.den, intCmp, e1, e8, e11, h1, h11] <;> (repeat' apply And.intro) <;> first | rfl | omega
        · simp [recText, recHead, recTail, h1, h8', h11]
  · refine leafX18 w hw hf hq1 ?_ fun ρ t1 t3 t4 => TB.eq (tb_lit _ _) ?_
    · simp [csQ1, kT, CRel_cons, CRel_nil, BT.den, IT.den, intCmp, e1] <;> (repeat' apply And.intro) <;> first | rfl | omega
    · unfold recText; rw [if_neg (by omega)]
  · refine leafX18 w hw hf hq2 ?_ fun ρ t1 t3 t4 => TB.eq (tb_lit _ _) ?_
    · simp [csQ2, kT, CRel_cons, CRel_nil, BT.den, IT.den, intCmp, e1] <;> (repeat' apply And.intro) <;> first | rfl | omega
    · unfold recText; rw [if_neg (by omega)]
def spX17 : CallF := spL [(59, spOpT), (61, spRespT), (73, spItoa)]
def RunX17 (cs : Cs) (s : ST) : Prop := (run Tryd.prog [] spX17 8000 false 17 (entry Tryd.f17 (Tryd.f17.body.getD .ret) [recA] .leaf 0 cs)).map (·.all (retIs (.str s))) = some true
theorem rx10 : RunX17 (csK 1 ++ csE 0) (.cat (.cat (.cat (.cat (.cat (.cat (.fn 1 (.var 0) (.lit 0)) (.lit [32])) (.lit [106, 111, 105, 110])) (.cat (.cat (.lit [32]) (.fn 1 (.var 7) (.lit 0))) (.lit [32]))) (.lit [45, 32])) (.fn 1 (.var 12) (.lit 0))) (.lit [32, 111, 112, 101, 110])) := by unfold RunX17; kernel_rfl
theorem rx11 : RunX17 (csK 1 ++ csE 1) (.cat (.cat (.cat (.cat (.cat (.cat (.fn 1 (.var 0) (.lit 0)) (.lit [32])) (.lit [106, 111, 105, 110])) (.cat (.cat (.lit [32]) (.fn 1 (.var 7) (.lit 0))) (.lit [32]))) (.cat (.cat (.cat (.fn 1 (.var 8) (.lit 0)) (.lit [32])) (.fn 1 (.var 12) (.lit 0))) (.lit [32]))) (.lit [33])) (.fn 1 (.var 11) (.lit 0))) := by unfold RunX17; kernel_rfl
theorem rx12 : RunX17 (csK 1 ++ csE 2) (.cat (.cat (.cat (.cat (.cat (.fn 1 (.var 0) (.lit 0)) (.lit [32])) (.lit [106, 111, 105, 110])) (.cat (.cat (.lit [32]) (.fn 1 (.var 7) (.lit 0))) (.lit [32]))) (.cat (.cat (.cat (.fn 1 (.var 8) (.lit 0)) (.lit [32])) (.fn 1 (.var 12) (.lit 0))) (.lit [32]))) (.lit [111, 107])) := by unfold RunX17; kernel_rfl
theorem rx20 : RunX17 (csK 2 ++ csE 0) (.cat (.cat (.cat (.cat (.cat (.cat (.fn 1 (.var 0) (.lit 0)) (.lit [32])) (.cat (.lit [105, 110, 118, 111, 107, 101, 32]) (.fn 3 (.fn 9 (.var 2) (.var 3)) (.fn 9 (.var 4) (.var 5))))) (.cat (.cat (.lit [32]) (.fn 1 (.var 7) (.lit 0))) (.lit [32]))) (.lit [45, 32])) (.fn 1 (.var 12) (.lit 0))) (.lit [32, 111, 112, 101, 110])) := by unfold RunX17; kernel_rfl
theorem rx21 : RunX17 (csK 2 ++ csE 1) (.cat (.cat (.cat (.cat (.cat (.cat (.fn 1 (.var 0) (.lit 0)) (.lit [32])) (.cat (.lit [105, 110, 118, 111, 107, 101, 32]) (.fn 3 (.fn 9 (.var 2) (.var 3)) (.fn 9 (.var 4) (.var 5))))) (.cat (.cat (.lit [32]) (.fn 1 (.var 7) (.lit 0))) (.lit [32]))) (.cat (.cat (.cat (.fn 1 (.var 8) (.lit 0)) (.lit [32])) (.fn 1 (.var 12) (.lit 0))) (.lit [32]))) (.lit [33])) (.fn 1 (.var 11) (.lit 0))) := by unfold RunX17; kernel_rfl
theorem rx22 : RunX17 (csK 2 ++ csE 2) (.cat (.cat (.cat (.cat (.cat (.fn 1 (.var 0) (.lit 0)) (.lit [32])) (.cat (.lit [105, 110, 118, 111, 107, 101, 32]) (.fn 3 (.fn 9 (.var 2) (.var 3)) (.fn 9 (.var 4) (.var 5))))) (.cat (.cat (.lit [32]) (.fn 1 (.var 7) (.lit 0))) (.lit [32]))) (.cat (.cat (.cat (.fn 1 (.var 8) (.lit 0)) (.lit [32])) (.fn 1 (.var 12) (.lit 0))) (.lit [32]))) (.fn 4 (.var 9) (.var 10))) := by unfold RunX17; kernel_rfl
theorem rx30 : RunX17 (csK 3 ++ csE 0) (.cat (.cat (.cat (.cat (.cat (.cat (.fn 1 (.var 0) (.lit 0)) (.lit [32])) (.lit [108, 101, 97, 118, 101])) (.cat (.cat (.lit [32]) (.fn 1 (.var 7) (.lit 0))) (.lit [32]))) (.lit [45, 32])) (.fn 1 (.var 12) (.lit 0))) (.lit [32, 111, 112, 101, 110])) := by unfold RunX17; kernel_rfl
theorem rx31 : RunX17 (csK 3 ++ csE 1) (.cat (.cat (.cat (.cat (.cat (.cat (.fn 1 (.var 0) (.lit 0)) (.lit [32])) (.lit [108, 101, 97, 118, 101])) (.cat (.cat (.lit [32]) (.fn 1 (.var 7) (.lit 0))) (.lit [32]))) (.cat (.cat (.cat (.fn 1 (.var 8) (.lit 0)) (.lit [32])) (.fn 1 (.var 12) (.lit 0))) (.lit [32]))) (.lit [33])) (.fn 1 (.var 11) (.lit 0))) := by unfold RunX17; kernel_rfl
theorem rx32 : RunX17 (csK 3 ++ csE 2) (.cat (.cat (.cat (.cat (.cat (.fn 1 (.var 0) (.lit 0)) (.lit [32])) (.lit [108, 101, 97, 118, 101])) (.cat (.cat (.lit [32]) (.fn 1 (.var 7) (.lit 0))) (.lit [32]))) (.cat (.cat (.cat (.fn 1 (.var 8) (.lit 0)) (.lit [32])) (.fn 1 (.var 12) (.lit 0))) (.lit [32]))) (.lit [111, 107])) := by unfold RunX17; kernel_rfl
theorem rx40 : RunX17 (csK 4 ++ csE 0) (.cat (.cat (.cat (.cat (.cat (.cat (.fn 1 (.var 0) (.lit 0)) (.lit [32])) (.cat (.lit [97, 100, 111, 112, 116, 32]) (.fn 1 (.var 6) (.lit 0)))) (.cat (.cat (.lit [32]) (.fn 1 (.var 7) (.lit 0))) (.lit [32]))) (.lit [45, 32])) (.fn 1 (.var 12) (.lit 0))) (.lit [32, 111, 112, 101, 110])) := by unfold RunX17; kernel_rfl
theorem rx41 : RunX17 (csK 4 ++ csE 1) (.cat (.cat (.cat (.cat (.cat (.cat (.fn 1 (.var 0) (.lit 0)) (.lit [32])) (.cat (.lit [97, 100, 111, 112, 116, 32]) (.fn 1 (.var 6) (.lit 0)))) (.cat (.cat (.lit [32]) (.fn 1 (.var 7) (.lit 0))) (.lit [32]))) (.cat (.cat (.cat (.fn 1 (.var 8) (.lit 0)) (.lit [32])) (.fn 1 (.var 12) (.lit 0))) (.lit [32]))) (.lit [33])) (.fn 1 (.var 11) (.lit 0))) := by unfold RunX17; kernel_rfl
theorem rx42 : RunX17 (csK 4 ++ csE 2) (.cat (.cat (.cat (.cat (.cat (.fn 1 (.var 0) (.lit 0)) (.lit [32])) (.cat (.lit [97, 100, 111, 112, 116, 32]) (.fn 1 (.var 6) (.lit 0)))) (.cat (.cat (.lit [32]) (.fn 1 (.var 7) (.lit 0))) (.lit [32]))) (.cat (.cat (.cat (.fn 1 (.var 8) (.lit 0)) (.lit [32])) (.fn 1 (.var 12) (.lit 0))) (.lit [32]))) (.lit [111, 107])) := by unfold RunX17; kernel_rfl
theorem rq1 : RunX17 csQ1 (.lit [63]) := by unfold RunX17; kernel_rfl
theorem rq2 : RunX17 csQ2 (.lit [63]) := by unfold RunX17; kernel_rfl
theorem spX17_ok (w : World) : CallOk Tryd.prog ⟨w, [], GT⟩ spX17 := by
  refine spL_ok fun p hp => ?_
  simp only [List.mem_cons, List.not_mem_nil, or_false] at hp
  rcases hp with rfl | rfl | rfl
  · exact spOpT_ok (fun _ _ _ _ _ h => h) fun hh c k a b h1 h2 h3 h4 => text59 _ h1 h2 h3 h4
  · exact spRespT_ok (fun _ _ _ _ _ h => h) fun hh k v h1 h2 => text61 _ h1 h2
  · exact spText_ok (fun _ _ _ _ _ h => h.1) fun hh n h1 h2 => num73 _ n h1 h2
theorem leafX17 (w : World) {f : Nat → Int} {z : Int} (hf : ∀ i, i < 15 → InI (f i)) {cs : Cs} {s : ST} {l : List UInt8} (hrun : RunX17 cs s) (hc : CRel (envR f z) cs)
    (hs : ∀ ρ : Env, (∀ i, i < 15 → TB ρ (.fn 1 (.var i) (.lit 0)) (Lib.itoa (f i))) → TB ρ (.fn 3 (.fn 9 (.var 2) (.var 3)) (.fn 9 (.var 4) (.var 5))) (opTextR (f 2) (f 3) (f 4) (f 5)) → TB ρ (.fn 4 (.var 9) (.var 10)) (respTextR (f 9) (f 10)) → TB ρ s l) :
    Calls Tryd.prog 17 #[recV f z] w (fun e w' => e = .returned (.string ⟨l.toArray⟩) ∧ Framed w w') := by
  refine calls_ret (β := ⟨w, [], GT⟩) (ρ := envR f z) noExt (spX17_ok w ) rfl Tryd.func17 rfl hrun (xs := [recV f z]) (envR_den f z) (HRel.startG w _ (fun _ => rfl) (envR_G hf)) hc (fun ρ' hle => ?_)
  have hS : ρ'.S = Sx := hle.s
  have hF : ∀ x y, ρ'.F 9 x y = prI x y := fun x y => by rw [hle.f]; rfl
  have hI : ∀ i, i < 15 → ρ'.I i = f i := fun i hi => by rw [hle.i]; show (if i < 15 then f i else _) = _; rw [if_pos hi]
  have h1 := hs ρ' (fun i hi => by
    have h := fn_den hS (k := 1) (p := .var i) (q := .lit 0) (hI i hi) rfl (by show (Lib.itoa (f i)).length ≤ _; have := itoa_len (hf i hi).1 (hf i hi).2; omega)
    exact h) (by
    have h := op_den hS hF (.var 2) (.var 3) (.var 4) (.var 5)
    simp only [PT.den, hI 2 (by decide), hI 3 (by decide), hI 4 (by decide), hI 5 (by decide)] at h
    exact h) (by
    have h := resp_den hS (.var 9) (.var 10)
    simp only [PT.den, hI 9 (by decide), hI 10 (by decide)] at h
    exact h)
  show some (Value.string (s.den ρ')) = _
  rw [show s.den ρ' = _ from h1]
theorem recText17 (w : World) {f : Nat → Int} {z : Int} (hf : ∀ i, i < 15 → InI (f i)) : Calls Tryd.prog 17 #[recV f z] w (fun e w' => e = .returned (.string ⟨(recText f).toArray⟩) ∧ Framed w w') := by
  have e1 : (envR f z).I 1 = f 1 := rfl
  have e8 : (envR f z).I 8 = f 8 := rfl
  have e11 : (envR f z).I 11 = f 11 := rfl
  rcases (show f 1 = 1 ∨ f 1 = 2 ∨ f 1 = 3 ∨ f 1 = 4 ∨ f 1 < 1 ∨ 4 < f 1 by omega) with h1 | h1 | h1 | h1 | h1 | h1
  · by_cases h8 : f 8 < 0
    · refine leafX17 w hf rx10 ?_ fun ρ t1 t3 t4 => TB.eq (tb_cat (tb_cat (tb_cat (tb_cat (tb_cat (tb_cat (t1 0 (by decide)) (tb_lit _ _)) (tb_lit _ _)) (tb_cat (tb_cat (tb_lit _ _) (t1 7 (by decide))) (tb_lit _ _))) (tb_lit _ _)) (t1 12 (by decide))) (tb_lit _ _)) ?_
      · simp [csK, csE, kT, CRel_cons, CRel_nil, BT.den, IT.den, intCmp, e1, e8, h1, h8] <;> (repeat' apply And.intro) <;> first | rfl | omega
      · simp [recText, recHead, recTail, h1, h8]
    · have h8' : ¬ f 8 < 0 := h8
      by_cases h11 : f 11 = 0
      · refine leafX17 w hf rx12 ?_ fun ρ t1 t3 t4 => TB.eq (tb_cat (tb_cat (tb_cat (tb_cat (tb_cat (t1 0 (by decide)) (tb_lit _ _)) (tb_lit _ _)) (tb_cat (tb_cat (tb_lit _ _) (t1 7 (by decide))) (tb_lit _ _))) (tb_cat (tb_cat (tb_cat (t1 8 (by decide)) (tb_lit _ _)) (t1 12 (by decide))) (tb_lit _ _))) (tb_lit _ _)) ?_
        · simp [csK, csE, kT, CRel_cons, CRel_nil, BT.den, IT.den, intCmp, e1, e8, e11, h1, h11] <;> (repeat' apply And.intro) <;> first | rfl | omega
        · simp [recText, recHead, recTail, h1, h8', h11]
      · refine leafX17 w hf rx11 ?_ fun ρ t1 t3 t4 => TB.eq (tb_cat (tb_cat (tb_cat (tb_cat (tb_cat (tb_cat (t1 0 (by decide)) (tb_lit _ _)) (tb_lit _ _)) (tb_cat (tb_cat (tb_lit _ _) (t1 7 (by decide))) (tb_lit _ _))) (tb_cat (tb_cat (tb_cat (t1 8 (by decide)) (tb_lit _ _)) (t1 12 (by decide))) (tb_lit _ _))) (tb_lit _ _)) (t1 11 (by decide))) ?_
        · simp [csK, csE, kT, CRel_cons, CRel_nil, BT.den, IT.den, intCmp, e1, e8, e11, h1, h11] <;> (repeat' apply And.intro) <;> first | rfl | omega
        · simp [recText, recHead, recTail, h1, h8', h11]
  · by_cases h8 : f 8 < 0
    · refine leafX17 w hf rx20 ?_ fun ρ t1 t3 t4 => TB.eq (tb_cat (tb_cat (tb_cat (tb_cat (tb_cat (tb_cat (t1 0 (by decide)) (tb_lit _ _)) (tb_cat (tb_lit _ _) t3)) (tb_cat (tb_cat (tb_lit _ _) (t1 7 (by decide))) (tb_lit _ _))) (tb_lit _ _)) (t1 12 (by decide))) (tb_lit _ _)) ?_
      · simp [csK, csE, kT, CRel_cons, CRel_nil, BT.den, IT.den, intCmp, e1, e8, h1, h8] <;> (repeat' apply And.intro) <;> first | rfl | omega
      · simp [recText, recHead, recTail, h1, h8]
    · have h8' : ¬ f 8 < 0 := h8
      by_cases h11 : f 11 = 0
      · refine leafX17 w hf rx22 ?_ fun ρ t1 t3 t4 => TB.eq (tb_cat (tb_cat (tb_cat (tb_cat (tb_cat (t1 0 (by decide)) (tb_lit _ _)) (tb_cat (tb_lit _ _) t3)) (tb_cat (tb_cat (tb_lit _ _) (t1 7 (by decide))) (tb_lit _ _))) (tb_cat (tb_cat (tb_cat (t1 8 (by decide)) (tb_lit _ _)) (t1 12 (by decide))) (tb_lit _ _))) t4) ?_
        · simp [csK, csE, kT, CRel_cons, CRel_nil, BT.den, IT.den, intCmp, e1, e8, e11, h1, h11] <;> (repeat' apply And.intro) <;> first | rfl | omega
        · simp [recText, recHead, recTail, h1, h8', h11]
      · refine leafX17 w hf rx21 ?_ fun ρ t1 t3 t4 => TB.eq (tb_cat (tb_cat (tb_cat (tb_cat (tb_cat (tb_cat (t1 0 (by decide)) (tb_lit _ _)) (tb_cat (tb_lit _ _) t3)) (tb_cat (tb_cat (tb_lit _ _) (t1 7 (by decide))) (tb_lit _ _))) (tb_cat (tb_cat (tb_cat (t1 8 (by decide)) (tb_lit _ _)) (t1 12 (by decide))) (tb_lit _ _))) (tb_lit _ _)) (t1 11 (by decide))) ?_
        · simp [csK, csE, kT, CRel_cons, CRel_nil, BT.den, IT.den, intCmp, e1, e8, e11, h1, h11] <;> (repeat' apply And.intro) <;> first | rfl | omega
        · simp [recText, recHead, recTail, h1, h8', h11]
  · by_cases h8 : f 8 < 0
    · refine leafX17 w hf rx30 ?_ fun ρ t1 t3 t4 => TB.eq (tb_cat (tb_cat (tb_cat (tb_cat (tb_cat (tb_cat (t1 0 (by decide)) (tb_lit _ _)) (tb_lit _ _)) (tb_cat (tb_cat (tb_lit _ _) (t1 7 (by decide))) (tb_lit _ _))) (tb_lit _ _)) (t1 12 (by decide))) (tb_lit _ _)) ?_
      · simp [csK, csE, kT, CRel_cons, CRel_nil, BT.den, IT.den, intCmp, e1, e8, h1, h8] <;> (repeat' apply And.intro) <;> first | rfl | omega
      · simp [recText, recHead, recTail, h1, h8]
    · have h8' : ¬ f 8 < 0 := h8
      by_cases h11 : f 11 = 0
      · refine leafX17 w hf rx32 ?_ fun ρ t1 t3 t4 => TB.eq (tb_cat (tb_cat (tb_cat (tb_cat (tb_cat (t1 0 (by decide)) (tb_lit _ _)) (tb_lit _ _)) (tb_cat (tb_cat (tb_lit _ _) (t1 7 (by decide))) (tb_lit _ _))) (tb_cat (tb_cat (tb_cat (t1 8 (by decide)) (tb_lit _ _)) (t1 12 (by decide))) (tb_lit _ _))) (tb_lit _ _)) ?_
        · simp [csK, csE, kT, CRel_cons, CRel_nil, BT.den, IT.den, intCmp, e1, e8, e11, h1, h11] <;> (repeat' apply And.intro) <;> first | rfl | omega
        · simp [recText, recHead, recTail, h1, h8', h11]
      · refine leafX17 w hf rx31 ?_ fun ρ t1 t3 t4 => TB.eq (tb_cat (tb_cat (tb_cat (tb_cat (tb_cat (tb_cat (t1 0 (by decide)) (tb_lit _ _)) (tb_lit _ _)) (tb_cat (tb_cat (tb_lit _ _) (t1 7 (by decide))) (tb_lit _ _))) (tb_cat (tb_cat (tb_cat (t1 8 (by decide)) (tb_lit _ _)) (t1 12 (by decide))) (tb_lit _ _))) (tb_lit _ _)) (t1 11 (by decide))) ?_
        · simp [csK, csE, kT, CRel_cons, CRel_nil, BT.den, IT.den, intCmp, e1, e8, e11, h1, h11] <;> (repeat' apply And.intro) <;> first | rfl | omega
        · simp [recText, recHead, recTail, h1, h8', h11]
  · by_cases h8 : f 8 < 0
    · refine leafX17 w hf rx40 ?_ fun ρ t1 t3 t4 => TB.eq (tb_cat (tb_cat (tb_cat (tb_cat (tb_cat (tb_cat (t1 0 (by decide)) (tb_lit _ _)) (tb_cat (tb_lit _ _) (t1 6 (by decide)))) (tb_cat (tb_cat (tb_lit _ _) (t1 7 (by decide))) (tb_lit _ _))) (tb_lit _ _)) (t1 12 (by decide))) (tb_lit _ _)) ?_
      · simp [csK, csE, kT, CRel_cons, CRel_nil, BT.den, IT.den, intCmp, e1, e8, h1, h8] <;> (repeat' apply And.intro) <;> first | rfl | omega
      · simp [recText, recHead, recTail, h1, h8]
    · have h8' : ¬ f 8 < 0 := h8
      by_cases h11 : f 11 = 0
      · refine leafX17 w hf rx42 ?_ fun ρ t1 t3 t4 => TB.eq (tb_cat (tb_cat (tb_cat (tb_cat (tb_cat (t1 0 (by decide)) (tb_lit _ _)) (tb_cat (tb_lit _ _) (t1 6 (by decide)))) (tb_cat (tb_cat (tb_lit _ _) (t1 7 (by decide))) (tb_lit _ _))) (tb_cat (tb_cat (tb_cat (t1 8 (by decide)) (tb_lit _ _)) (t1 12 (by decide))) (tb_lit _ _))) (tb_lit _ _)) ?_
        · simp [csK, csE, kT, CRel_cons, CRel_nil, BT.den, IT.den, intCmp, e1, e8, e11, h1, h11] <;> (repeat' apply And.intro) <;> first | rfl | omega
        · simp [recText, recHead, recTail, h1, h8', h11]
      · refine leafX17 w hf rx41 ?_ fun ρ t1 t3 t4 => TB.eq (tb_cat (tb_cat (tb_cat (tb_cat (tb_cat (tb_cat (t1 0 (by decide)) (tb_lit _ _)) (tb_cat (tb_lit _ _) (t1 6 (by decide)))) (tb_cat (tb_cat (tb_lit _ _) (t1 7 (by decide))) (tb_lit _ _))) (tb_cat (tb_cat (tb_cat (t1 8 (by decide)) (tb_lit _ _)) (t1 12 (by decide))) (tb_lit _ _))) (tb_lit _ _)) (t1 11 (by decide))) ?_
        · simp [csK, csE, kT, CRel_cons, CRel_nil, BT.den, IT.den, intCmp, e1, e8, e11, h1, h11] <;> (repeat' apply And.intro) <;> first | rfl | omega
        · simp [recText, recHead, recTail, h1, h8', h11]
  · refine leafX17 w hf rq1 ?_ fun ρ t1 t3 t4 => TB.eq (tb_lit _ _) ?_
    · simp [csQ1, kT, CRel_cons, CRel_nil, BT.den, IT.den, intCmp, e1] <;> (repeat' apply And.intro) <;> first | rfl | omega
    · unfold recText; rw [if_neg (by omega)]
  · refine leafX17 w hf rq2 ?_ fun ρ t1 t3 t4 => TB.eq (tb_lit _ _) ?_
    · simp [csQ2, kT, CRel_cons, CRel_nil, BT.den, IT.den, intCmp, e1] <;> (repeat' apply And.intro) <;> first | rfl | omega
    · unfold recText; rw [if_neg (by omega)]
end Txt
end Go.Proofs.YtagdcclpibjfoaaDoor
