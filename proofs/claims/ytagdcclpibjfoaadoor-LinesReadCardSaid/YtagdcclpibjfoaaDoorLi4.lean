/-
  Lines (4): the reference's Parse: which event any text is.
-/
import Derived.Test.YtagdcclpibjfoaaDoorLi3
import Derived.Test.YtagdcclpibjfoaaDoorVm27
namespace Go.Proofs.YtagdcclpibjfoaaDoor
open Go.Vm
namespace Txt

-- NAMES
def FP (k : Nat) (x y : Int) : Int := match k with
  | 40 => if parOk (wordsOf (lb x)) = true then 1 else 0
  | 41 => pqC (wordsOf (lb x))
  | 42 => pqK (wordsOf (lb x))
  | 43 => pqA (wordsOf (lb x))
  | 44 => pqB (wordsOf (lb x))
  | 61 => encI (evAt x y)
  | 62 => if evB (evAt x y) = true then 1 else 0
  | k => FO k x y
def G64 (s : ByteArray) : GP := fun _ _ S _ F => S 5 = s ∧ F = FP
def β64 (w : World) (s : ByteArray) : Base := ⟨w, [], G64 s⟩
theorem GF64 {k : Nat} (h : ∀ x, FP k x 0 = FO k x 0) (w : World) (s : ByteArray) : GF k (β64 w s) := fun I B S V F hG x => by
  obtain ⟨_, rfl⟩ : S 5 = s ∧ F = FP := hG
  exact h x
theorem GEn64 (w : World) (s : ByteArray) : GEn (β64 w s) := fun I B S V F hG e => by
  obtain ⟨_, rfl⟩ : S 5 = s ∧ F = FP := hG
  show encI (evAt (c1 e) (c2 e)) = _ ∧ (if evB (evAt (c1 e) (c2 e)) = true then (1 : Int) else 0) = _
  rw [evAt_c]; exact ⟨rfl, rfl⟩
def pF (k : Nat) (s : ST) : IT := .fn k (.scode s) (.lit 0)
def spParF : SpG := fun args H nl cs => match args with
  | [.str s] => cond (sureL cs s 10000) (some [.ret (.tuple [.agg [.int .i64 (pF 41 s), .int .i64 (pF 42 s), .int .i64 (pF 43 s), .int .i64 (pF 44 s)], .bool (.cmp .eql (pF 40 s) (.lit 1))]) H nl cs]) none
  | _ => none
theorem pF_den {ρ : Env} (hF : ρ.F = FP) (k : Nat) (s : ST) : (pF k s).den ρ = some (FP k (encS (s.den ρ)) 0) := by
  simp only [pF, IT.den, hF]
theorem parV_pq (ws : List (List UInt8)) : parV ws = .tuple #[opV4 (pqC ws) (pqK ws) (pqA ws) (pqB ws), .bool (parOk ws)] := by
  unfold parV pqC pqK pqA pqB
  cases h : parOk ws <;> simp
theorem spParF_ok {w0 : World} {s0 : ByteArray} (hT : TabW w0) (hM : MaxW w0) (hE : ErrW w0) : SpGOk Tryd.prog (β64 w0 s0) 55 spParF := by
  intro args H nl cs ls ρ w xs hr hx hh hc
  unfold spParF at hr
  split at hr
  rotate_left
  · cases hr
  rename_i s
  cases hb : sureL cs s 10000 with
  | false => rw [hb] at hr; cases hr
  | true =>
    rw [hb] at hr; cases hr
    have hsz := sureL_ok hb hc
    obtain ⟨_, hF⟩ : ρ.S 5 = s0 ∧ ρ.F = FP := hh.g
    simp only [AVal.denL, AVal.den, Option.some.injEq] at hx
    subst hx
    have h55 := parse55a w (TabW.of hT rfl hh) (by obtain ⟨m, hm⟩ := hM; exact ⟨m, cell_of' (β := β64 w0 s0) hm rfl hh⟩) (ErrW.of (β := β64 w0 s0) hE rfl hh) (s.den ρ) (by omega)
    rw [parV_pq] at h55
    refine spV_ok (xs := [.string (s.den ρ)]) h55 ?_ hh hc
    have q : ∀ k, FP k (encS (s.den ρ)) 0 = FP k (encS (s.den ρ)) 0 := fun _ => rfl
    have e1 : FP 41 (encS (s.den ρ)) 0 = pqC (wordsOf (s.den ρ).data.toList) := by show pqC (wordsOf (lb (encS (s.den ρ)))) = _; rw [lb_enc]
    have e2 : FP 42 (encS (s.den ρ)) 0 = pqK (wordsOf (s.den ρ).data.toList) := by show pqK (wordsOf (lb (encS (s.den ρ)))) = _; rw [lb_enc]
    have e3 : FP 43 (encS (s.den ρ)) 0 = pqA (wordsOf (s.den ρ).data.toList) := by show pqA (wordsOf (lb (encS (s.den ρ)))) = _; rw [lb_enc]
    have e4 : FP 44 (encS (s.den ρ)) 0 = pqB (wordsOf (s.den ρ).data.toList) := by show pqB (wordsOf (lb (encS (s.den ρ)))) = _; rw [lb_enc]
    have e0 : FP 40 (encS (s.den ρ)) 0 = if parOk (wordsOf (s.den ρ).data.toList) = true then 1 else 0 := by show (if parOk (wordsOf (lb (encS (s.den ρ)))) = true then (1 : Int) else 0) = _; rw [lb_enc]
    have el : (IT.lit 1).den ρ = some 1 := rfl
    simp only [AVal.den, AVal.denL, BT.den, pF_den hF, e0, e1, e2, e3, e4, el, Option.map_some, intCmp]
    rw [one1]; rfl
def sp64 : CallF := spL [(101, spWords false), (102, spNumR), (55, spParF), (109, spEncG)]
theorem sp64_ok (w : World) (s : ByteArray) (hT : TabW w) (hM : MaxW w) (hE : ErrW w) : CallOk Tryd.prog (β64 w s) sp64 := by
  refine spL_ok fun p hp => ?_
  simp only [sp64, List.mem_cons, List.not_mem_nil, or_false] at hp
  rcases hp with rfl | rfl | rfl | rfl
  · exact spWords_ok (GF64 (fun _ => rfl) w s) fun w' _ _ _ _ t ht => words101 w' t ht
  · exact spNumR_ok (GF64 (fun _ => rfl) w s)
  · exact spParF_ok hT hM hE
  · exact spEncG_ok (GEn64 w s) encode109
-- TERMS
def w0X : ST := .dec (.un 0 (.fn 30 (.sv 5) (.lit 0)) (.lit 0))
def wN (j : Nat) : IT := .fn 31 (.scode (.dec (.un 0 (.fn 30 (.sv 5) (.lit 0)) (.lit (.ofNat j))))) (.lit 0)
def lN : IT := .un 4 (.fn 30 (.scode (.var 5)) (.lit 0)) (.lit 0)
def evF (c : Nat) : Nat → IT := fun j => match j with
  | 0 => .lit (if c < 6 then (c : Int) else -1)
  | 1 => wN 1
  | 2 => if c = 4 then wN 2 else .lit 0
  | 3 => if c = 5 then wN 2 else .lit 0
  | _ => .lit 0
def evP : Nat → IT := fun j => match j with
  | 0 => .lit 1
  | 1 => wN 1
  | 2 => .lit 0
  | 3 => .lit 0
  | j => .fn (37 + j) (.scode (.var 0)) (.lit 0)
def evA8 (f : Nat → IT) : AVal := .agg [.int .i64 (f 0), .int .i64 (f 1), .int .i64 (f 2), .int .i64 (f 3), .int .i64 (f 4), .int .i64 (f 5), .int .i64 (f 6), .int .i64 (f 7)]
def mW (c : Nat) : Int := if c = 4 ∨ c = 5 then 3 else 2
def bnn (b : BT) (v : Bool) : Cs := [(b, v), (.not b, !v)]
def facE (c : Nat) : Cs := evK.zipIdx.map fun p => (.seq (.lit p.1) w0X, Nat.beq p.2 c)
def csA (c : Nat) : Cs := [(.cmp .leq (.slen (.var 5)) (.lit 10000), true), (.cmp .geq lN (.lit 1), true), (.cmp .leq lN (.lit 10001), true)] ++ facE c
def f2 (b : Bool) : Cs := [(.cmp .lss lN (.lit 2), b)]
def fIx : Cs := [(.cmp .geq (.lit 0) (.lit 0), true), (.cmp .lss (.lit 0) lN, true), (.cmp .geq (.lit 1) (.lit 0), true), (.cmp .lss (.lit 1) lN, true), (.cmp .geq (.lit 2) (.lit 0), true), (.cmp .leq (.lit 2) lN, true)]
def fM (c : Nat) (b : Bool) : Cs := [(.cmp .neq lN (.lit (mW c)), b)]
def f3 : Cs := [(.cmp .lss (.lit 2) lN, true)]
def fE (f : Nat → IT) (b : Bool) : Cs := bnn (eT f) b
def f3c (c : Nat) : Cs := if c = 4 ∨ c = 5 then f3 else []
def retZ : AVal := .tuple [zVz, .bool (.lit false)]
  where zVz : AVal := .agg [.int .i64 (.lit 0), .int .i64 (.lit 0), .int .i64 (.lit 0), .int .i64 (.lit 0), .int .i64 (.lit 0), .int .i64 (.lit 0), .int .i64 (.lit 0), .int .i64 (.lit 0)]
def retE (f : Nat → IT) : AVal := .tuple [evA8 f, .bool (.lit true)]
def Run64 (cs : Cs) (u : AVal) : Prop := (run Tryd.prog [(127, .same)] sp64 8000 false 64 (entry Tryd.f64 (Tryd.f64.body.getD .ret) [.str (.var 5)] .leaf 0 cs)).map (·.all (retIs u)) = some true
def AllC (c : Nat) : Prop := Run64 (f2 true ++ csA c) retZ ∧ (c ≠ 1 → Run64 (fM c true ++ f2 false ++ fIx ++ csA c) retZ ∧ Run64 (fE (evF c) false ++ fM c false ++ f2 false ++ fIx ++ f3c c ++ csA c) retZ ∧ Run64 (fE (evF c) true ++ fM c false ++ f2 false ++ fIx ++ f3c c ++ csA c) (retE (evF c)))
theorem a0 : AllC 0 := ⟨by unfold Run64; kernel_rfl, fun _ => ⟨by unfold Run64; kernel_rfl, by unfold Run64; kernel_rfl, by unfold Run64; kernel_rfl⟩⟩
theorem a1 : AllC 1 := ⟨by unfold Run64; kernel_rfl, fun h => absurd rfl h⟩
theorem a2 : AllC 2 := ⟨by unfold Run64; kernel_rfl, fun _ => ⟨by unfold Run64; kernel_rfl, by unfold Run64; kernel_rfl, by unfold Run64; kernel_rfl⟩⟩
theorem a3 : AllC 3 := ⟨by unfold Run64; kernel_rfl, fun _ => ⟨by unfold Run64; kernel_rfl, by unfold Run64; kernel_rfl, by unfold Run64; kernel_rfl⟩⟩
theorem a4 : AllC 4 := ⟨by unfold Run64; kernel_rfl, fun _ => ⟨by unfold Run64; kernel_rfl, by unfold Run64; kernel_rfl, by unfold Run64; kernel_rfl⟩⟩
theorem a5 : AllC 5 := ⟨by unfold Run64; kernel_rfl, fun _ => ⟨by unfold Run64; kernel_rfl, by unfold Run64; kernel_rfl, by unfold Run64; kernel_rfl⟩⟩
theorem a6 : AllC 6 := ⟨by unfold Run64; kernel_rfl, fun _ => ⟨by unfold Run64; kernel_rfl, by unfold Run64; kernel_rfl, by unfold Run64; kernel_rfl⟩⟩
theorem a_all {c : Nat} (h : c ≤ 6) : AllC c := by
  rcases (show c = 0 ∨ c = 1 ∨ c = 2 ∨ c = 3 ∨ c = 4 ∨ c = 5 ∨ c = 6 by omega) with rfl | rfl | rfl | rfl | rfl | rfl | rfl
  · exact a0
  · exact a1
  · exact a2
  · exact a3
  · exact a4
  · exact a5
  · exact a6
section
variable {ρ : Env} {s : ByteArray} {ws : List (List UInt8)}
theorem lN_den (hS : ρ.S 5 = s) (hF : ρ.F = FP) (hw : FO 30 (encS s) 0 = encW ws) : lN.den ρ = some (ws.length : Int) := by
  have e : FP 30 (encS s) 0 = encW ws := hw
  simp only [lN, IT.den, ST.den, hS, hF, e, un4_enc]
theorem wT_pden (hS : ρ.S 5 = s) (hF : ρ.F = FP) (hw : FO 30 (encS s) 0 = encW ws) (j : Nat) : (ST.dec (.un 0 (.fn 30 (.sv 5) (.lit 0)) (.lit (.ofNat j)))).den ρ = bytes (ws.getD j []) := by
  have e : FP 30 (encS s) 0 = encW ws := hw
  have e2 : univ 0 (encW ws) (Int.ofNat j) = encS (bytes (ws.getD j [])) := un0_get ws j
  simp only [ST.den, PT.den, hS, hF, e, e2, decS_encS]
theorem wN_den (hS : ρ.S 5 = s) (hF : ρ.F = FP) (hw : FO 30 (encS s) 0 = encW ws) (j : Nat) : (wN j).den ρ = some (numL (ws.getD j [])) := by
  have e2 := wT_pden hS hF hw j
  have e3 : FP 31 (encS (bytes (ws.getD j []))) 0 = numL (ws.getD j []) := by
    show numL (lb (encS (bytes (ws.getD j [])))) = _
    rw [lb_enc, bytes_toList]
  simp only [wN, IT.den.eq_12, IT.den.eq_14, e2, hF, e3, show (IT.lit 0).den ρ = some 0 from rfl]
theorem facE_ok (hS : ρ.S 5 = s) (hF : ρ.F = FP) (hw : FO 30 (encS s) 0 = encW ws) : CRel ρ (facE (evK.idxOf (ws.getD 0 []))) := fun p hp => by
  obtain ⟨q, hq, rfl⟩ := List.mem_map.1 hp
  show (BT.seq (.lit q.1) w0X).den ρ = some (Nat.beq q.2 (evK.idxOf (ws.getD 0 [])))
  have e : w0X.den ρ = bytes (ws.getD 0 []) := wT_pden hS hF hw 0
  rw [seqD, e, bytes_toList, ← ev_at hq]
  simp [ST.den]
theorem csA_ok (hS : ρ.S 5 = s) (hF : ρ.F = FP) (hw : FO 30 (encS s) 0 = encW ws) (hs : s.size ≤ 10000) (h1 : 1 ≤ ws.length) (h2 : ws.length ≤ 10001) : CRel ρ (csA (evK.idxOf (ws.getD 0 []))) := by
  refine CRel_apd.2 ⟨?_, facE_ok hS hF hw⟩
  have e := lN_den hS hF hw
  have el : ∀ n, (IT.lit n).den ρ = some n := fun _ => rfl
  have es : (IT.slen (.var 5)).den ρ = some (s.size : Int) := by simp only [IT.den, ST.den, hS]
  simp only [CRel_cons, CRel_nil, and_true, BT.den, e, el, es, intCmp, Option.some.injEq, decide_eq_true_eq]
  omega
theorem fIx_ok (e : lN.den ρ = some (ws.length : Int)) (h : 2 ≤ ws.length) : CRel ρ fIx := by
  have el : ∀ n, (IT.lit n).den ρ = some n := fun _ => rfl
  simp only [fIx, CRel_cons, CRel_nil, and_true, BT.den, e, el, intCmp, Option.some.injEq, decide_eq_true_eq]
  omega
theorem f2_ok (e : lN.den ρ = some (ws.length : Int)) {b : Bool} (h : decide (ws.length < 2) = b) : CRel ρ (f2 b) := by
  have el : ∀ n, (IT.lit n).den ρ = some n := fun _ => rfl
  simp only [f2, CRel_cons, CRel_nil, and_true, BT.den, e, el, intCmp, Option.some.injEq]
  rw [← h]
  exact decide_eq_decide.2 (by omega)
theorem fM_ok (e : lN.den ρ = some (ws.length : Int)) {c : Nat} {b : Bool} (h : decide ((ws.length : Int) ≠ mW c) = b) : CRel ρ (fM c b) := by
  have el : ∀ n, (IT.lit n).den ρ = some n := fun _ => rfl
  simp only [fM, CRel_cons, CRel_nil, and_true, BT.den, e, el, intCmp, Option.some.injEq]
  rw [← h]
  by_cases hq : (ws.length : Int) = mW c <;> simp [hq]
theorem f3c_ok (e : lN.den ρ = some (ws.length : Int)) {c : Nat} (h : (ws.length : Int) = mW c) : CRel ρ (f3c c) := by
  have el : ∀ n, (IT.lit n).den ρ = some n := fun _ => rfl
  unfold f3c
  split
  · rename_i hc
    rw [mW, if_pos hc] at h
    simp only [f3, CRel_cons, CRel_nil, and_true, BT.den, e, el, intCmp, Option.some.injEq, decide_eq_true_eq]
    omega
  · exact CRel_nil.2 trivial
theorem bnn_ok {t : BT} {b : Bool} (h : t.den ρ = some b) : CRel ρ (bnn t b) := by
  simp only [bnn, CRel_cons, CRel_nil, and_true, h, BT.den.eq_4, Option.map_some]
structure Den8 (ρ : Env) (f : Nat → IT) (e : Evt) : Prop where
  h0 : (f 0).den ρ = some e.k
  h1 : (f 1).den ρ = some e.w
  h2 : (f 2).den ρ = some e.o
  h3 : (f 3).den ρ = some e.n
  h4 : (f 4).den ρ = some e.c
  h5 : (f 5).den ρ = some e.y
  h6 : (f 6).den ρ = some e.a
  h7 : (f 7).den ρ = some e.b
theorem Den8.eT {f : Nat → IT} {e : Evt} (d : Den8 ρ f e) (hF : ρ.F = FP) : (Txt.eT f).den ρ = some (evB e) :=
  eT_den (fun e => by rw [hF]; show (if evB (evAt (c1 e) (c2 e)) = true then (1 : Int) else 0) = _; rw [evAt_c]) (cod_den d.h0 d.h1 d.h2 d.h3 d.h4 d.h5 d.h6 d.h7)
theorem Den8.ret {f : Nat → IT} {e : Evt} (d : Den8 ρ f e) : (retE f).den ρ = some (.tuple #[evV e, .bool true]) := by
  simp only [retE, evA8, AVal.den, AVal.denL, BT.den, d.h0, d.h1, d.h2, d.h3, d.h4, d.h5, d.h6, d.h7, Option.map_some]; rfl
theorem retZ_den : retZ.den ρ = some (.tuple #[evV .z, .bool false]) := rfl
theorem kidx_of (ws : List (List UInt8)) : kidx (ws.getD 0 []) = if evK.idxOf (ws.getD 0 []) < 6 then (evK.idxOf (ws.getD 0 []) : Int) else -1 := rfl
theorem evF_den (hS : ρ.S 5 = s) (hF : ρ.F = FP) (hw : FO 30 (encS s) 0 = encW ws) (h1 : evK.idxOf (ws.getD 0 []) ≠ 1) : Den8 ρ (evF (evK.idxOf (ws.getD 0 []))) (refE ws) := by
  have hk := kidx_of ws
  have hle : evK.idxOf (ws.getD 0 []) ≤ 6 := List.idxOf_le_length
  have e1 := wN_den hS hF hw 1
  have e2 := wN_den hS hF hw 2
  unfold refE
  generalize evK.idxOf (ws.getD 0 []) = c at h1 hk hle
  simp only [hk]
  rcases (show c = 0 ∨ c = 2 ∨ c = 3 ∨ c = 4 ∨ c = 5 ∨ c = 6 by omega) with rfl | rfl | rfl | rfl | rfl | rfl
  all_goals exact ⟨rfl, e1, by first | rfl | exact e2, by first | rfl | exact e2, rfl, rfl, rfl, rfl⟩
end

-- THE WORDS OF AN OPERATION, JOINED ANEW
theorem take_le : ∀ (l : List (List UInt8)) (i : Nat), (joinW (l.take i)).length ≤ (joinW l).length
  | l, 0 => by simp [joinW]
  | [], i + 1 => by simp
  | [x], i + 1 => by simp [joinW]
  | x :: y :: r, 1 => by simp [joinW]
  | x :: y :: r, i + 2 => by
    have := take_le (y :: r) (i + 1)
    simp only [List.take_succ_cons] at this ⊢
    show (x ++ (32 :: joinW (y :: r.take i))).length ≤ (x ++ (32 :: joinW (y :: r))).length
    simp only [List.length_append, List.length_cons]
    omega
theorem join_succ : ∀ (l : List (List UInt8)) (i : Nat), i + 1 < l.length → joinW (l.take (i + 2)) = joinW (l.take (i + 1)) ++ [32] ++ l.getD (i + 1) []
  | [], i, h => by simp at h
  | [x], i, h => by simp at h
  | x :: y :: r, 0, _ => by simp [joinW]
  | x :: y :: r, i + 1, h => by
    have := join_succ (y :: r) i (by simpa using h)
    simp only [List.take_succ_cons] at this ⊢
    show x ++ (32 :: joinW (y :: r.take (i + 1))) = (x ++ (32 :: joinW (y :: r.take i))) ++ [32] ++ (y :: r).getD (i + 1) []
    rw [this]
    simp
def nRT : IT := .un 14 lN (.lit 2)
def e2T : IT := .elem (.lit 2) 1 0 (.var 0)
def xT : ST := .dec (.un 0 (.fn 30 (.sv 5) (.lit 0)) (.elem (.lit 2) 1 0 (.var 0)))
def lnF (s : ST) : Cs := [(.cmp .leq (.slen s) (.lit 9223372036854775807), true)]
def jIn : Cs := [(.cmp .lss (.var 0) nRT, true), (.cmp .geq e2T (.lit 0), true), (.cmp .lss e2T lN, true)]
def jA : Cs := jIn ++ [(.cmp .gtr (.var 0) (.lit 0), false)] ++ lnF (.cat (.var 0) xT)
def jB : Cs := jIn ++ [(.cmp .gtr (.var 0) (.lit 0), true)] ++ lnF (.cat (.var 0) (.lit [32])) ++ lnF (.cat (.cat (.var 0) (.lit [32])) xT)
def jO : Cs := [(.cmp .lss (.var 0) nRT, false)]
def fPk (b : Bool) : Cs := bnn (.cmp .eql (.fn 40 (.scode (.var 0)) (.lit 0)) (.lit 1)) b
def z8 : List AVal := List.replicate 8 (.int .i64 (.lit 0))
def ev1L : List AVal := [.int .i64 (.lit 1), .int .i64 (wN 1)] ++ List.replicate 6 (.int .i64 (.lit 0))
def csJT : Cs := [(.cmp .geq (.var 0) (.lit 0), true), (.cmp .leq (.var 0) nRT, true), (.cmp .leq (.slen (.var 0)) (.lit 10000), true), (.cmp .geq lN (.lit 2), true), (.cmp .leq lN (.lit 10001), true)]
def JT : Tpl := ⟨[(2, .ptr 0 (.lit 0)), (4, .ptr 1 (.lit 0)), (5, .slice 3 (.lit 0) lN (.nv 2)), (6, .ptr 4 (.lit 0)), (9, .str (.var 0)), (48, .slice 3 (.elem (.lit 0) 1 0 (.un 13 (.lit 2) (.nv 2))) (.un 14 lN (.lit 2)) (.un 14 (.nv 2) (.lit 2))), (49, .int .i64 (.un 14 lN (.lit 2))), (50, .int .i64 (.var 0))], 114,
  [(0, ⟨.cells z8 77 none, true⟩), (1, ⟨.cells z8 77 none, true⟩), (3, ⟨.srow (wT (.var 5)) 9 lN (some (.nv 2)), true⟩), (4, ⟨.cells ev1L 77 none, true⟩)], 5, csJT, 4⟩
def g4L : Gen := ⟨10, 0, 1, 0⟩
def plJ : Go.Vm.PL := .only [15]
noncomputable def jb : Code := ((loopsOf (Tryd.f64.body.getD .ret) []).getD 1 (.ret, [])).1
noncomputable def jk : List Item := ((loopsOf (Tryd.f64.body.getD .ret) []).getD 1 (.ret, [])).2
noncomputable def RunJ (c : Cs) (l : LS) : Prop := (run Tryd.prog [(127, .same)] sp64 8000 plJ 64 ((⟨JT.tm, JT.nt, JT.H, JT.nl, c ++ csJT, JT.dep⟩ : Tpl).st (.code jb :: .inLoop jb :: jk))).map (·.filterMap (sumL g4L [JT])) = some [l]
def sgJ (t : ST) : Sub := ⟨[(0, .bin .add .i64 (.var 0) (.lit 1))], [], [(0, t)], [], [(0, 0), (1, 1), (3, 3), (2, 2), (4, 4)]⟩
def csL : Cs := f2 false ++ fIx ++ csA 1
noncomputable def sums64 : List LS := [.next 0 (.code (.loop jb) :: jk) csL ⟨[(0, (.lit 0))], [], [(0, (.lit []))], [], [(0, 0), (1, 1), (3, 3), (2, 2), (4, 4)]⟩]
theorem rL : (run Tryd.prog [(127, .same)] sp64 8000 plJ 64 (entry Tryd.f64 (Tryd.f64.body.getD .ret) [.str (.var 5)] .leaf 0 csL)).map (·.filterMap (sumL g4L [JT])) = some sums64 := by kernel_rfl
theorem rjA : RunJ jA (.next 0 (.inLoop jb :: jk) (jA ++ csJT) (sgJ (.cat (.var 0) xT))) := by unfold RunJ; kernel_rfl
theorem rjB : RunJ jB (.next 0 (.inLoop jb :: jk) (jB ++ csJT) (sgJ (.cat (.cat (.var 0) (.lit [32])) xT))) := by unfold RunJ; kernel_rfl
theorem rjO0 : RunJ (jO ++ fPk false) (.ret retZ ((jO ++ fPk false) ++ csJT)) := by unfold RunJ; kernel_rfl
theorem rjO1 : RunJ (jO ++ fPk true ++ fE evP false) (.ret retZ ((jO ++ fPk true ++ fE evP false) ++ csJT)) := by unfold RunJ; kernel_rfl
theorem rjO2 : RunJ (jO ++ fPk true ++ fE evP true) (.ret (retE evP) ((jO ++ fPk true ++ fE evP true) ++ csJT)) := by unfold RunJ; kernel_rfl
end Txt
end Go.Proofs.YtagdcclpibjfoaaDoor
