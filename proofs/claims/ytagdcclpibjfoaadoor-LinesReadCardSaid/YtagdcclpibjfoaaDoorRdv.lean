/-
  Reading scripts (3): lines.Read, the loop over the lines.
-/
import Derived.Test.YtagdcclpibjfoaaDoorRd2
section
namespace Go.Proofs.YtagdcclpibjfoaaDoor
open Go.Vm Txt
namespace Rd

def GRd (v : Value) : GP := fun _ _ _ _ F => F = FR v
def βR (w : World) (v : Value) : Base := ⟨w, [], GRd v⟩
def RR (w0 : World) (s : List UInt8) (x : Value) (w' : World) : Prop := ∃ y, x = .tuple #[y, .int .i64 (readL s).2] ∧ RowOr w0 w' y 77 ks8 (evs (readL s).1) (readL s).1.length
theorem sp69_ok {w0 : World} (v : Value) (hT : TabW w0) (hM : MaxW w0) (hE : ErrW w0) : CallOk Tryd.prog (βR w0 v) sp69 := by
  refine spL_ok fun p hp => ?_
  simp only [List.mem_cons, List.not_mem_nil, or_false] at hp
  rcases hp with rfl | rfl
  · exact spCutN_ok (v := v) (fun _ _ _ _ _ h => h) rfl hM
  · exact spPrN_ok (v := v) (fun _ _ _ _ _ h => h) rfl hT hM hE
structure Inn (v : Value) (l : List UInt8) (k : Nat) (ρ : Env) : Prop where
  f : ρ.F = FR v
  s : ρ.S 0 = Txt.bytes l
  i : ρ.I 5 = (k : Int)
  k1 : 1 ≤ k
  k2 : k ≤ 5001
  len : l.length ≤ 100000
  ln : ∀ x ∈ lns l, x.length ≤ 10000
structure Acc (acc : List Evt) (ρ : Env) : Prop where
  c : ρ.I 2 = encL (evs acc)
  n : ρ.I 3 = (acc.length : Int)
  ne : acc ≠ []
theorem Inn.of_le {v : Value} {l : List UInt8} {k : Nat} {ρ ρ' : Env} (h : Inn v l k ρ) (g : ρ.Le ρ') : Inn v l k ρ' := ⟨by rw [g.f]; exact h.f, by rw [g.s]; exact h.s, by rw [g.i]; exact h.i, h.k1, h.k2, h.len, h.ln⟩
theorem Acc.of_le {acc : List Evt} {ρ ρ' : Env} (h : Acc acc ρ) (g : ρ.Le ρ') : Acc acc ρ' := ⟨by rw [g.i]; exact h.c, by rw [g.i]; exact h.n, h.ne⟩
def J0 (v : Value) (s : List UInt8) (ρ : Env) : Prop := ∃ l k, Inn v l k ρ ∧ readG k (lns l) [] = readL s
def J1 (v : Value) (s : List UInt8) (ρ : Env) : Prop := ∃ l k acc, Inn v l k ρ ∧ Acc acc ρ ∧ acc.length < k ∧ readG k (lns l) acc = readL s
theorem one {α : Type} {p : α → Prop} {a : α} (h : p a) : ∀ x ∈ [a], p x := fun _ hx => by rw [List.mem_singleton.1 hx]; exact h
theorem litI (ρ : Env) (n : Int) : (IT.lit n).den ρ = some n := rfl
section
variable {v : Value} {l : List UInt8} {k : Nat} {ρ : Env} (h : Inn v l k ρ)
include h
theorem v0 : (ST.var 0).den ρ = Txt.bytes l := h.s
theorem lnD : lT.den ρ = Txt.bytes (line l) := by
  show (lnT (.var 0)).den ρ = _
  rw [lnT_den h.f, v0 h, bytes_toList]
theorem v5 : (IT.var 5).den ρ = some (k : Int) := congrArg some h.i
theorem csA_ok : CRel ρ csA := by
  have hk1 := h.k1
  have hk2 := h.k2
  have hl := h.len
  refine CRel_cons.2 ⟨?_, CRel_cons.2 ⟨?_, CRel_cons.2 ⟨?_, CRel_nil.2 trivial⟩⟩⟩
  · simp only [BT.den, IT.den, v0 h, bytes_size, intCmp, Option.some.injEq, decide_eq_true_eq]; omega
  · simp only [BT.den, v5 h, litI, intCmp, Option.some.injEq, decide_eq_true_eq]; omega
  · simp only [BT.den, v5 h, litI, intCmp, Option.some.injEq, decide_eq_true_eq]; omega
theorem fS_ok {b : Bool} (hb : (!(l == [])) = b) : CRel ρ (fS b) := by
  refine CRel_cons.2 ⟨?_, CRel_nil.2 trivial⟩
  have e : (BT.seq (.var 0) (.lit [])).den ρ = some (l == []) := by
    rw [seqD, v0 h, bytes_toList]; rfl
  rw [notD e, hb]
theorem fB_ok {b : Bool} (hb : decide (5000 < k) = b) : CRel ρ (fB b) := by
  refine CRel_cons.2 ⟨?_, CRel_nil.2 trivial⟩
  simp only [BT.den, v5 h, litI, intCmp, Option.some.injEq]
  rw [← hb]
  simp only [gt_iff_lt, decide_eq_decide]
  omega
theorem fE_ok {b : Bool} (hb : (line l == []) = b) : CRel ρ (fE b) := by
  refine CRel_cons.2 ⟨?_, CRel_nil.2 trivial⟩
  rw [seqD, lnD h, bytes_toList, ← hb]; rfl
theorem fL_ok (hn : line l ≠ []) : CRel ρ fL := by
  have h0 : l ≠ [] := fun e => hn (by rw [e]; rfl)
  have h1 := h.ln (line l) (by rw [lns_ne h0]; exact List.mem_cons_self)
  have h3 := List.length_pos_iff.2 hn
  refine CRel_cons.2 ⟨?_, CRel_cons.2 ⟨?_, CRel_cons.2 ⟨?_, CRel_nil.2 trivial⟩⟩⟩
  · simp only [BT.den, IT.den, lnD h, bytes_size, intCmp, Option.some.injEq, decide_eq_true_eq]; omega
  · simp only [BT.den, litI, intCmp, Option.some.injEq, decide_eq_true_eq]; omega
  · simp only [BT.den, IT.den, lnD h, bytes_size, intCmp, Option.some.injEq, decide_eq_true_eq]; omega
theorem fH_ok (hn : line l ≠ []) {b : Bool} (hb : skp (line l) = b) : CRel ρ (fH b) := by
  refine CRel_cons.2 ⟨?_, CRel_nil.2 trivial⟩
  have e : (IT.un 0 (.scode lT) (.lit 0)).den ρ = some (((line l).getD 0 0).toNat : Int) := by
    show some (univ 0 (encS (lT.den ρ)) ((0 : Nat) : Int)) = _
    rw [un0_byte, lnD h, bytes_toList]
  simp only [BT.den, e, litI, intCmp, Option.some.injEq]
  rw [← hb]
  generalize line l = x at hn
  match x, hn with
  | c :: r, _ =>
    show ((c.toNat : Int) == 35) = (c == 35)
    rw [Bool.eq_iff_iff, beq_iff_eq, beq_iff_eq]
    constructor
    · intro hc
      apply UInt8.toNat_inj.1
      show c.toNat = 35
      omega
    · intro hc
      rw [hc]; rfl
theorem fO_ok {b : Bool} (hb : (!(readE (line l)).2) = b) : CRel ρ (fO b) := by
  refine CRel_cons.2 ⟨?_, CRel_nil.2 trivial⟩
  have e := okT_den h.f lT
  rw [lnD h, bytes_toList] at e
  rw [notD e, hb]
theorem fN_ok {acc : List Evt} (a : Acc acc ρ) (hk : acc.length < k) : CRel ρ fN := by
  have hk2 := h.k2
  refine CRel_cons.2 ⟨?_, CRel_nil.2 trivial⟩
  have e : (IT.var 3).den ρ = some (acc.length : Int) := congrArg some a.n
  simp only [BT.den, e, litI, intCmp, Option.some.injEq, decide_eq_true_eq]; omega
theorem csB_ok {acc : List Evt} (a : Acc acc ρ) (hk : acc.length < k) : CRel ρ csB := by
  have hk2 := h.k2
  have h3 := List.length_pos_iff.2 a.ne
  have e : (IT.var 3).den ρ = some (acc.length : Int) := congrArg some a.n
  refine CRel_app.2 ⟨csA_ok h, CRel_cons.2 ⟨?_, CRel_cons.2 ⟨?_, CRel_nil.2 trivial⟩⟩⟩
  · simp only [BT.den, e, litI, intCmp, Option.some.injEq, decide_eq_true_eq]; omega
  · simp only [BT.den, e, litI, intCmp, Option.some.injEq, decide_eq_true_eq]; omega
/-- One line on. -/
theorem step (hn : l ≠ []) (hk : ¬ 5000 < k) {ρ' : Env} {σ : Sub} (h5 : lk σ.I 5 = some up5) (h0 : lk σ.S 0 = some (rsT (.var 0))) (g : ρ.Le ρ') : Inn v (rest l) (k + 1) (σ.app ρ') := by
  have h' := h.of_le g
  have hk1 := h.k1
  have hr := rest_le l
  have hl := h.len
  refine ⟨h'.f, ?_, ?_, by omega, by omega, by omega, fun x hx => h.ln x (by rw [lns_ne hn]; exact List.mem_cons_of_mem _ hx)⟩
  · have e := rsT_den h'.f (.var 0)
    rw [v0 h', bytes_toList] at e
    show (match cond (Nat.blt 0 1000000) (lk σ.S 0) none with | some t => t.den ρ' | none => ρ'.S 0) = _
    simp only [h0]
    exact e
  · show (match lk σ.I 5 with | some t => (t.den ρ').getD 0 | none => ρ'.I 5) = _
    simp only [h5]
    have e : up5.den ρ' = some (IntKind.i64.wrap ((k : Int) + 1)) := by
      simp only [up5, IT.den, intBin, h'.i]
    rw [e]
    show IntKind.i64.wrap ((k : Int) + 1) = _
    rw [wrapI (by omega) (by omega)]; omega
theorem app8_den {acc : List Evt} {c : IT} (hc : c.den ρ = some (encL (evs acc))) : (app8 c).den ρ = some (encL (evs (acc ++ [(readE (line l)).1]))) := by
  have e : ∀ j : Int, (IT.fn 74 (.scode lT) (.lit j)).den ρ = some ((evC (readE (line l)).1).getD j.toNat 0) := fun j => by
    have := ev_den h.f lT j
    rwa [lnD h, bytes_toList] at this
  have u : ∀ {t : IT} {L : List Int} (j : Int), t.den ρ = some (encL L) → (IT.un 3 t (.fn 74 (.scode lT) (.lit j))).den ρ = some (encL (L ++ [(evC (readE (line l)).1).getD j.toNat 0])) := fun {t L} j ht => by
    rw [unD ht (e j)]
    show some (encL (decL (encL L) ++ _)) = _
    rw [decL_encL]
  have := u 7 (u 6 (u 5 (u 4 (u 3 (u 2 (u 1 (u 0 hc)))))))
  refine Eq.trans this ?_
  rw [evs_app]
  simp only [evs, List.append_nil, List.append_assoc]
  rfl
end
section
variable {P : Program} {β : Base} {f : FuncId} {R : Value → World → Prop} {Rs Ts : List Tpl} {ρ : Env}
theorem nextR {q : Nat} {todo : List Item} {cs : Cs} {σ : Sub} {T : Tpl} (hT : Ts[q]? = some T) (hown : β.own = []) (h : ∀ ρ', ρ.Le ρ' → GP.at β.G ρ' → GP.at β.G (σ.app ρ') ∧ CRel (σ.app ρ') T.cs ∧ ∀ a w, SRel β (σ.app ρ') (T.st todo) a w → Goes P f R todo a w) : MGoodO P β f R Rs Ts ρ (.next q todo cs σ) :=
  ⟨fun l hl => (by rw [hown] at hl; cases hl), fun ρ' hle _ T' hT' hG => by obtain rfl := Option.some.inj (hT.symm.trans hT'); exact h ρ' hle hG⟩
theorem doneR {q : Nat} {cs : Cs} {σ : Sub} {T : Tpl} (hT : Rs[q]? = some T) (hown : β.own = []) (h : ∀ ρ', ρ.Le ρ' → GP.at β.G ρ' → GP.at β.G (σ.app ρ') ∧ CRel (σ.app ρ') T.cs ∧ ∀ x w', SRel β (σ.app ρ') (T.st []) ⟨#[x], []⟩ w' → R x w') : MGoodO P β f R Rs Ts ρ (.done q cs σ) :=
  ⟨fun l hl => (by rw [hown] at hl; cases hl), fun ρ' hle _ T' hT' hG => by obtain rfl := Option.some.inj (hT.symm.trans hT'); exact h ρ' hle hG⟩
end
-- THE ENDS
theorem end0 {w0 : World} {v : Value} {s : List UInt8} {ρ : Env} {cs : Cs} {t : IT} {z : Int} (hz : readL s = ([], z)) (ht : ∀ ρ', ρ.Le ρ' → t.den ρ' = some z) : MGoodO Tryd.prog (βR w0 v) 69 (RR w0 s) [E0, E1] [R1, R0] ρ (.done 0 cs ⟨[(5, t)], [], [], [], []⟩) := by
  refine doneR rfl rfl fun ρ' hle hG => ⟨hG, CRel_nil.2 trivial, fun x w' r => ?_⟩
  obtain ⟨y, hy, he⟩ := r.t 0 (.tuple [.sliceNil, iV 5]) rfl
  obtain rfl : x = y := Option.some.inj he
  have e5 : (iV 5).den (Sub.app ⟨[(5, t)], [], [], [], []⟩ ρ') = some (.int .i64 z) := by
    show (some ((t.den ρ').getD 0)).map (Value.int .i64) = _
    rw [ht ρ' hle]; rfl
  simp only [AVal.den, AVal.denL, e5, Option.map_some, Option.some.injEq] at hy
  refine ⟨.slice none 0 0, by rw [← hy, hz], ?_⟩
  rw [hz]
  exact .inl ⟨rfl, rfl, framed_base rfl r.h⟩
theorem end1 {w0 : World} {v : Value} {s : List UInt8} {ρ : Env} {cs : Cs} {acc : List Evt} (a : Acc acc ρ) (hz : readL s = (acc, 0)) : MGoodO Tryd.prog (βR w0 v) 69 (RR w0 s) [E0, E1] [R1, R0] ρ (.done 1 cs ⟨[(3, .var 3), (5, .lit 0), (2, .var 2)], [], [], [], [(2, 2), (1, 1)]⟩) := by
  refine doneR rfl rfl fun ρ' hle hG => ⟨hG, CRel_nil.2 trivial, fun x w' r => ?_⟩
  have a' := a.of_le hle
  obtain ⟨y, hy, he⟩ := r.t 0 (.tuple [at1, iV 5]) rfl
  obtain rfl : x = y := Option.some.inj he
  have e5 : (iV 5).den (Sub.app ⟨[(3, .var 3), (5, .lit 0), (2, .var 2)], [], [], [], [(2, 2), (1, 1)]⟩ ρ') = some (.int .i64 0) := rfl
  obtain ⟨u, hd, hy⟩ := tup2x hy e5
  refine ⟨u, by rw [hy, hz], ?_⟩
  rw [hz]
  exact .inr ⟨List.length_pos_iff.2 a.ne, row_out (l := 2) (j := 1) (nT := .var 3) (c := .var 2) rfl r.h rfl hd (congrArg some a'.n) (congrArg some a'.c)⟩
-- READ, ONE LINE ON
section
variable {l : List UInt8} {k : Nat} {acc : List Evt}
theorem g_nil : readG k (lns []) acc = (acc, 0) := rfl
theorem g_big (hn : l ≠ []) (hk : 5000 < k) : readG k (lns l) acc = ([], (k : Int)) := by
  rw [lns_ne hn]; unfold readG; rw [if_pos hk]
theorem g_skp (hn : l ≠ []) (hk : ¬ 5000 < k) (hs : skp (line l) = true) : readG k (lns l) acc = readG (k + 1) (lns (rest l)) acc := by
  rw [lns_ne hn]; conv => lhs; unfold readG
  rw [if_neg hk, if_pos hs]
theorem g_bad (hn : l ≠ []) (hk : ¬ 5000 < k) (hs : skp (line l) = false) (ho : (readE (line l)).2 = false) : readG k (lns l) acc = ([], (k : Int)) := by
  rw [lns_ne hn]; unfold readG
  rw [if_neg hk, if_neg (by rw [hs]; decide), if_neg (by rw [ho]; decide)]
theorem g_ok (hn : l ≠ []) (hk : ¬ 5000 < k) (hs : skp (line l) = false) (ho : (readE (line l)).2 = true) : readG k (lns l) acc = readG (k + 1) (lns (rest l)) (acc ++ [(readE (line l)).1]) := by
  rw [lns_ne hn]; conv => lhs; unfold readG
  rw [if_neg hk, if_neg (by rw [hs]; decide), if_pos ho]
end
section
variable {w0 : World} {v : Value} {s : List UInt8} (hT : TabW w0) (hM : MaxW w0) (hE : ErrW w0)
include hT hM hE
theorem loop1 : ∀ ρ, J1 v s ρ → ∀ todo a w, todo = .inLoop lb0 :: lk0 ∨ todo = .code (.loop lb0) :: lk0 → SRel (βR w0 v) ρ (R1.st todo) a w → Goes Tryd.prog 69 (RR w0 s) todo a w := by
  refine loop_goesW (n := 4000) (g := gR) (L := []) (pl := true) (Rs := [E0, E1]) (Ts := [R1, R0]) (β := βR w0 v) noCount ext1_ok (sp69_ok v hT hM hE) follows (J1 v s) (fun ρ => (ρ.S 0).size) (fun ρ hJ hcs hG ih => ?_)
  obtain ⟨l, k, acc, h, a, hk1, hg⟩ := hJ
  have hm : (ρ.S 0).size = l.length := by rw [h.s, bytes_size]
  have e3 : (IT.bin .add .i64 (.var 3) (.lit 1)).den ρ = some (((acc ++ [(readE (line l)).1]).length : Nat) : Int) := by
    have hk2 := h.k2
    simp only [IT.den, intBin, a.n, List.length_append, List.length_cons, List.length_nil]
    rw [wrapI (by omega) (by omega)]; simp
  by_cases hn : l = []
  · subst hn
    refine ⟨_, _, CRel_app.2 ⟨fS_ok h (b := false) rfl, hcs⟩, r16, one (end1 a ?_)⟩
    rw [← hg, g_nil]
  have fS' := fS_ok h (b := true) (by cases l with | nil => exact absurd rfl hn | cons _ _ => rfl)
  have hlt := rest_lt hn
  by_cases hk : 5000 < k
  · refine ⟨_, _, CRel_app.2 ⟨CRel_app.2 ⟨fS', fB_ok h (b := true) (by simpa using hk)⟩, hcs⟩, r11, one (end0 (z := (k : Int)) ?_ fun ρ' hle => v5 (h.of_le hle))⟩
    rw [← hg, g_big hn hk]
  have fB' := fB_ok h (b := false) (by simpa using hk)
  have stay : ∀ {cs : Cs}, readG k (lns l) acc = readG (k + 1) (lns (rest l)) acc → MGoodO Tryd.prog (βR w0 v) 69 (RR w0 s) [E0, E1] [R1, R0] ρ (.next 0 (.inLoop lb0 :: lk0) cs s1) := fun {cs} he => by
    refine nextR rfl rfl fun ρ' hle hG' => ?_
    have i' := step h hn hk (σ := s1) rfl rfl hle
    have a' : Acc acc (s1.app ρ') := ⟨(a.of_le hle).c, (a.of_le hle).n, a.ne⟩
    refine ⟨hG', csB_ok i' a' (by omega), fun b w r => ih _ ?_ ⟨rest l, k + 1, acc, i', a', by omega, by rw [← he, hg]⟩ _ b w (.inl rfl) r⟩
    rw [i'.s, bytes_size, hm]; exact hlt
  by_cases hl0 : line l = []
  · exact ⟨_, _, CRel_app.2 ⟨CRel_app.2 ⟨CRel_app.2 ⟨fS', fB'⟩, fE_ok h (b := true) (by rw [hl0]; rfl)⟩, hcs⟩, r12, one (stay (g_skp hn hk (by rw [hl0]; rfl)))⟩
  have fE' := fE_ok h (b := false) (by generalize line l = x at hl0; cases x with | nil => exact absurd rfl hl0 | cons _ _ => rfl)
  have fL' := fL_ok h hl0
  cases hs : skp (line l) with
  | true =>
    exact ⟨_, _, CRel_app.2 ⟨CRel_app.2 ⟨CRel_app.2 ⟨CRel_app.2 ⟨CRel_app.2 ⟨fS', fB'⟩, fE'⟩, fL'⟩, fH_ok h hl0 hs⟩, hcs⟩, r13, one (stay (g_skp hn hk hs))⟩
  | false =>
    have pre := CRel_app.2 ⟨CRel_app.2 ⟨CRel_app.2 ⟨CRel_app.2 ⟨fS', fB'⟩, fE'⟩, fL'⟩, fH_ok h hl0 hs⟩
    cases ho : (readE (line l)).2 with
    | false =>
      refine ⟨_, _, CRel_app.2 ⟨CRel_app.2 ⟨pre, fO_ok h (b := true) (by rw [ho]; rfl)⟩, hcs⟩, r14, one (end0 (z := (k : Int)) ?_ fun ρ' hle => v5 (h.of_le hle))⟩
      rw [← hg, g_bad hn hk hs ho]
    | true =>
      refine ⟨_, _, CRel_app.2 ⟨CRel_app.2 ⟨CRel_app.2 ⟨pre, fO_ok h (b := false) (by rw [ho]; rfl)⟩, fN_ok h a hk1⟩, hcs⟩, r15, one (nextR rfl rfl fun ρ' hle hG' => ?_)⟩
      have i' := step h hn hk (σ := a1) rfl rfl hle
      have d8 := app8_den (h.of_le hle) (c := .var 2) (congrArg some (a.of_le hle).c)
      have a' : Acc (acc ++ [(readE (line l)).1]) (a1.app ρ') := by
        refine ⟨?_, ?_, by simp⟩
        · show ((app8 (.var 2)).den ρ').getD 0 = _
          rw [d8]; rfl
        · show ((IT.bin .add .i64 (.var 3) (.lit 1)).den ρ').getD 0 = _
          rw [IT.den_mono hle e3]; rfl
      have hl' : (acc ++ [(readE (line l)).1]).length = acc.length + 1 := by simp
      refine ⟨hG', csB_ok i' a' (by omega), fun b w r => ih _ ?_ ⟨rest l, k + 1, _, i', a', by omega, by rw [← g_ok hn hk hs ho, hg]⟩ _ b w (.inl rfl) r⟩
      rw [i'.s, bytes_size, hm]; exact hlt
theorem loop0 : ∀ ρ, J0 v s ρ → ∀ todo a w, todo = .inLoop lb0 :: lk0 ∨ todo = .code (.loop lb0) :: lk0 → SRel (βR w0 v) ρ (R0.st todo) a w → Goes Tryd.prog 69 (RR w0 s) todo a w := by
  refine loop_goesW (n := 4000) (g := gR) (L := []) (pl := true) (Rs := [E0, E1]) (Ts := [R1, R0]) (β := βR w0 v) noCount ext1_ok (sp69_ok v hT hM hE) follows (J0 v s) (fun ρ => (ρ.S 0).size) (fun ρ hJ hcs hG ih => ?_)
  obtain ⟨l, k, h, hg⟩ := hJ
  have hm : (ρ.S 0).size = l.length := by rw [h.s, bytes_size]
  by_cases hn : l = []
  · subst hn
    refine ⟨_, _, CRel_app.2 ⟨fS_ok h (b := false) rfl, hcs⟩, r06, one (end0 (z := 0) ?_ fun ρ' hle => rfl)⟩
    rw [← hg, g_nil]
  have fS' := fS_ok h (b := true) (by cases l with | nil => exact absurd rfl hn | cons _ _ => rfl)
  have hlt := rest_lt hn
  by_cases hk : 5000 < k
  · refine ⟨_, _, CRel_app.2 ⟨CRel_app.2 ⟨fS', fB_ok h (b := true) (by simpa using hk)⟩, hcs⟩, r01, one (end0 (z := (k : Int)) ?_ fun ρ' hle => v5 (h.of_le hle))⟩
    rw [← hg, g_big hn hk]
  have fB' := fB_ok h (b := false) (by simpa using hk)
  have stay : ∀ {cs : Cs}, readG k (lns l) [] = readG (k + 1) (lns (rest l)) [] → MGoodO Tryd.prog (βR w0 v) 69 (RR w0 s) [E0, E1] [R1, R0] ρ (.next 1 (.inLoop lb0 :: lk0) cs s0) := fun {cs} he => by
    refine nextR rfl rfl fun ρ' hle hG' => ?_
    have i' := step h hn hk (σ := s0) rfl rfl hle
    refine ⟨hG', csA_ok i', fun b w r => ih _ ?_ ⟨rest l, k + 1, i', by rw [← he, hg]⟩ _ b w (.inl rfl) r⟩
    rw [i'.s, bytes_size, hm]; exact hlt
  by_cases hl0 : line l = []
  · exact ⟨_, _, CRel_app.2 ⟨CRel_app.2 ⟨CRel_app.2 ⟨fS', fB'⟩, fE_ok h (b := true) (by rw [hl0]; rfl)⟩, hcs⟩, r02, one (stay (g_skp hn hk (by rw [hl0]; rfl)))⟩
  have fE' := fE_ok h (b := false) (by generalize line l = x at hl0; cases x with | nil => exact absurd rfl hl0 | cons _ _ => rfl)
  have fL' := fL_ok h hl0
  cases hs : skp (line l) with
  | true =>
    exact ⟨_, _, CRel_app.2 ⟨CRel_app.2 ⟨CRel_app.2 ⟨CRel_app.2 ⟨CRel_app.2 ⟨fS', fB'⟩, fE'⟩, fL'⟩, fH_ok h hl0 hs⟩, hcs⟩, r03, one (stay (g_skp hn hk hs))⟩
  | false =>
    have pre := CRel_app.2 ⟨CRel_app.2 ⟨CRel_app.2 ⟨CRel_app.2 ⟨fS', fB'⟩, fE'⟩, fL'⟩, fH_ok h hl0 hs⟩
    cases ho : (readE (line l)).2 with
    | false =>
      refine ⟨_, _, CRel_app.2 ⟨CRel_app.2 ⟨pre, fO_ok h (b := true) (by rw [ho]; rfl)⟩, hcs⟩, r04, one (end0 (z := (k : Int)) ?_ fun ρ' hle => v5 (h.of_le hle))⟩
      rw [← hg, g_bad hn hk hs ho]
    | true =>
      refine ⟨_, _, CRel_app.2 ⟨CRel_app.2 ⟨pre, fO_ok h (b := false) (by rw [ho]; rfl)⟩, hcs⟩, r05, one (nextR rfl rfl fun ρ' hle hG' => ?_)⟩
      have i' := step h hn hk (σ := a0) rfl rfl hle
      have d8 := app8_den (h.of_le hle) (acc := []) (c := .lit 0) rfl
      have a' : Acc [(readE (line l)).1] (a0.app ρ') := by
        refine ⟨?_, rfl, by simp⟩
        show ((app8 (.lit 0)).den ρ').getD 0 = _
        rw [d8]; rfl
      have hk1 := h.k1
      refine ⟨hG', csB_ok i' a' (by simp; omega), fun b w r => loop1 hT hM hE _ ⟨rest l, k + 1, _, i', a', by simp; omega, by rw [← hg, g_ok hn hk hs ho]; rfl⟩ _ b w (.inl rfl) r⟩
end
/-- LINES.READ OF ANY TEXT. -/
theorem read69 (w : World) (hT : TabW w) (hM : MaxW w) (hE : ErrW w) (s : ByteArray) (hs : s.size ≤ 100000) (hls : ∀ x ∈ lns s.data.toList, x.length ≤ 10000) : Calls Tryd.prog 69 #[.string s] w (fun e w' => ∃ y, e = .returned (.tuple #[y, .int .i64 (readL s.data.toList).2]) ∧ RowOr w w' y 77 ks8 (evs (readL s.data.toList).1) (readL s.data.toList).1.length) := by
  obtain ⟨ρ, hρ⟩ : ∃ ρ : Env, ρ = ⟨fun _ => 0, fun _ => false, fun _ => s, fun _ => undef, fun _ => none, FR undef⟩ := ⟨_, rfl⟩
  have hN : ∀ i, ρ.N i = none := fun i => by rw [hρ]
  have hF : ρ.F = FR undef := by rw [hρ]
  have hS : ρ.S 0 = Txt.bytes s.data.toList := by rw [hρ]; show s = Txt.bytes s.data.toList; apply ByteArray.ext; simp [Txt.bytes]
  have hl : s.data.toList.length ≤ 100000 := by simpa using hs
  have hx : AVal.denL ρ [.str (.var 0)] = some [.string s] := by rw [hρ]; rfl
  have := calls_sumsO (β := βR w undef) (R := RR w s.data.toList) noCount ext1_ok (sp69_ok undef hT hM hE) follows Tryd.func69 rfl rE hx (HRel.startG w _ hN hF) (CRel_cons.2 ⟨?_, CRel_nil.2 trivial⟩) (one (nextR (T := R0) rfl rfl fun ρ' hle hG' => ?_))
  · exact this.mono fun e w' ⟨x, he, y, hy, hr⟩ => ⟨y, by rw [he, hy], hr⟩
  · have e0 : (ST.var 0).den ρ = Txt.bytes s.data.toList := hS
    simp only [BT.den, IT.den, e0, bytes_size, intCmp, Option.some.injEq, decide_eq_true_eq]; omega
  · have i' : Inn undef s.data.toList 1 (Sub.app ⟨[(5, .lit 1)], [], [(0, .var 0)], [], []⟩ ρ') := ⟨hG', by show ρ'.S 0 = _; rw [hle.s, hS], rfl, by omega, by omega, hl, hls⟩
    exact ⟨hG', csA_ok i', fun a w' r => loop0 hT hM hE _ ⟨s.data.toList, 1, i', rfl⟩ _ a w' (.inr rfl) r⟩
end Rd
end Go.Proofs.YtagdcclpibjfoaaDoor
end

/-
  Reading scripts (4): lines.Script of any row of at most 200 events.
-/
section
namespace Go.Proofs.YtagdcclpibjfoaaDoor
open Go.Vm Txt
namespace Rd

-- A ROW OF EVENTS
def sl : AVal := .slice 0 (.var 12) (.var 10) (.var 11)
def H0 : List (Nat × HB) := [(0, ⟨.arr (.var 0) ks8 77 (.var 10) (.var 12) none, false⟩)]
def RecIn (v : Value) : Prop := ∀ i j, j < 8 → InJ (selI v (i * 8 + j))
/-- A row's first events. -/
def evl (v : Value) : Nat → List Evt
  | 0 => []
  | i + 1 => evl v i ++ [evRow v i]
def allB (v : Value) (n : Nat) : Bool := (evl v n).all evB
-- ITS TEXTS
def txT (p : PT) : ST := .dec (.fn 76 p (.lit 0))
-- THE WALK
def GS (v : Value) (n : Nat) : GP := fun I _ _ V F => F = FR v ∧ V 0 = v ∧ I 10 = (n : Int)
def inCs (k : Nat) : Cs := [(.cmp .geq (.var k) (.lit 0), true), (.cmp .leq (.var k) (.var 10), true)]
def csN : Cs := [(.cmp .leq (.var 10) (.lit 200), true)]
def cs1 : Cs := inCs 0 ++ csN ++ [(.cmp .geq (.var 4) (.lit 1), true), (.cmp .leq (.var 4) (.lit 50000), true)]
def inI (i : IT) (b : Bool) : Cs := [(.cmp .lss i (.var 10), b)]
def fT (t : ST) (b : Bool) : Cs := [(.seq t (.lit []), b)]
def fA (t : ST) : Cs := [(.cmp .leq (.bin .add .i64 (.var 4) (.slen t)) (.lit 1000000), true)]
def t0 : ST := txT (.lit 0)
def t1 : ST := txT (.var 0)
def e6 (t : IT) : BT × Bool := (.cmp .leq t (.lit 1000000), true)
section
variable {P : Program} {β : Base} {f : FuncId} {Q : Value → Prop} {Ts : List Tpl} {ρ : Env}
theorem nextS {q : Nat} {todo : List Item} {cs : Cs} {σ : Sub} {T : Tpl} (hT : Ts[q]? = some T) (h : ∀ ρ', ρ.Le ρ' → GP.at β.G ρ' → GP.at β.G (σ.app ρ') ∧ CRel (σ.app ρ') T.cs ∧ ∀ a w, SRel β (σ.app ρ') (T.st todo) a w → Goes P f (fun v w' => Q v ∧ Framed β.w0 w') todo a w) : SumGood P β f Q Ts ρ (.next q todo cs σ) :=
  fun ρ' hle _ T' hT' hG => by obtain rfl := Option.some.inj (hT.symm.trans hT'); exact h ρ' hle hG
theorem retS {u : AVal} {cs : Cs} {z : Value} (hd : ∀ ρ', ρ.Le ρ' → u.den ρ' = some z) (hq : Q z) : SumGood P β f Q Ts ρ (.ret u cs) :=
  fun ρ' hle _ x hx => by rw [hd ρ' hle] at hx; cases hx; exact hq
end
structure Row (v : Value) (n : Nat) (ρ : Env) : Prop where
  f : ρ.F = FR v
  v0 : ρ.V 0 = v
  n0 : ρ.I 10 = (n : Int)
theorem Row.of_le {v : Value} {n : Nat} {ρ ρ' : Env} (h : Row v n ρ) (g : ρ.Le ρ') : Row v n ρ' := ⟨by rw [g.f]; exact h.f, by rw [g.v]; exact h.v0, by rw [g.i]; exact h.n0⟩
theorem Row.g {v : Value} {n : Nat} {ρ : Env} (h : Row v n ρ) : GP.at (GS v n) ρ := ⟨h.f, h.v0, h.n0⟩
structure Js (v : Value) (n i : Nat) (ρ : Env) : Prop where
  r : Row v n ρ
  i0 : ρ.I 0 = (i : Int)
  s : ρ.S 0 = Txt.bytes (scr (evl v i))
  l : ρ.I 4 = ((scr (evl v i)).length : Int)
  p : 1 ≤ i
  le : i ≤ n
  all : allB v i = true
theorem Js.of_le {v : Value} {n i : Nat} {ρ ρ' : Env} (h : Js v n i ρ) (g : ρ.Le ρ') : Js v n i ρ' := ⟨h.r.of_le g, by rw [g.i]; exact h.i0, by rw [g.s]; exact h.s, by rw [g.i]; exact h.l, h.p, h.le, h.all⟩
section
variable {v : Value} {n : Nat} {ρ : Env}
theorem fT_ok {t : ST} {l : List UInt8} (h : t.den ρ = Txt.bytes l) {b : Bool} (hb : (l == []) = b) : CRel ρ (fT t b) := by
  refine CRel_cons.2 ⟨?_, CRel_nil.2 trivial⟩
  rw [seqD, h, bytes_toList, ← hb]; rfl
end
theorem emp {α : Type} {l : List α} [BEq (List α)] [LawfulBEq (List α)] (h : l ≠ []) : (l == []) = false := by rw [beq_eq_false_iff_ne]; exact h
section
variable {w0 : World} {v : Value} {n : Nat} (hv : RecIn v) (hT : TabW w0) (hn : n ≤ 200)
include hv hT hn
end
end Rd
end Go.Proofs.YtagdcclpibjfoaaDoor
end

/-
  Reading scripts (5): two rows of the same events are the same to law 32's helper.
-/
section
namespace Go.Proofs.YtagdcclpibjfoaaDoor
open Go.Vm Txt
namespace Rd

/-- Two rows, whose blocks are named 0 and 1, and nothing else. -/
theorem row2 {w : World} {ρ : Env} {b o b' o' : Nat} {ks : List IntKind} {m m' : Nat} {n off n' off' : IT} {el : TypeId} {G : GP}
    (h : RowAt w b o ks m (ρ.V 0)) (h' : RowAt w b' o' ks m' (ρ.V 1)) (hn : n.den ρ = some (m : Int)) (ho : off.den ρ = some (o : Int)) (hn' : n'.den ρ = some (m' : Int)) (ho' : off'.den ρ = some (o' : Int)) (hN : ∀ i, ρ.N i = if i = 0 then some b else if i = 1 then some b' else none) (hG : G ρ.I ρ.B ρ.S ρ.V ρ.F) :
    HRel ⟨w, [], G⟩ ρ (ofP [(0, ⟨.arr (.var 0) ks el n off none, false⟩), (1, ⟨.arr (.var 1) ks el n' off' none, false⟩)]) 2 w := by
  have two : ∀ l k, (ofP [(0, (⟨.arr (.var 0) ks el n off none, false⟩ : HB)), (1, ⟨.arr (.var 1) ks el n' off' none, false⟩)]).get l = some k → (l = 0 ∧ k = ⟨.arr (.var 0) ks el n off none, false⟩) ∨ (l = 1 ∧ k = ⟨.arr (.var 1) ks el n' off' none, false⟩) := fun l k hl => by
    have := ofP_mem hl
    rcases List.mem_cons.1 this with e | h
    · cases e; exact .inl ⟨rfl, rfl⟩
    · rcases List.mem_cons.1 h with e | h
      · cases e; exact .inr ⟨rfl, rfl⟩
      · cases h
  refine ⟨fun l k hl => ?_, fun l l' k k' hl _ hr _ => ?_, fun l k b' hl hr => ?_, fun i hi => ?_, (fun l hl => by cases hl), Nat.le_refl _, fun _ _ _ => rfl, rfl, rfl, rfl, hG⟩
  · rcases two l k hl with ⟨rfl, rfl⟩ | ⟨rfl, rfl⟩
    · obtain ⟨ob, h1, h2⟩ := h.rel rfl hn ho el
      exact ⟨b, ob, by rw [hN]; rfl, h1, h2⟩
    · obtain ⟨ob, h1, h2⟩ := h'.rel rfl hn' ho' el
      exact ⟨b', ob, by rw [hN]; rfl, h1, h2⟩
  · rcases two l k hl with ⟨_, rfl⟩ | ⟨_, rfl⟩ <;> cases hr
  · rcases two l k hl with ⟨_, rfl⟩ | ⟨_, rfl⟩ <;> cases hr
  · rw [hN, if_neg (by omega), if_neg (by omega)]
def sl2 : AVal := .slice 1 (.var 13) (.var 10) (.var 14)
def H2 : List (Nat × HB) := H0 ++ [(1, ⟨.arr (.var 1) ks8 77 (.var 10) (.var 13) none, false⟩)]
def csM : Cs := inCs 0 ++ [(.cmp .leq (.var 10) (.lit 10000), true)]
def M0 : Tpl := ⟨[(0, sl), (1, sl2), (4, .bool (.lit false)), (12, iV 10), (13, iV 0)], 26, H2, 2, csM, 3⟩
def eqC (j : Nat) : BT := .cmp .eql (.sel 0 8 j (.var 0)) (.sel 1 8 j (.var 0))
def eqT : BT := .and (eqC 0) (.and (eqC 1) (.and (eqC 2) (.and (eqC 3) (.and (eqC 4) (.and (eqC 5) (.and (eqC 6) (eqC 7)))))))
def fEq : Cs := inI (.var 0) true ++ [(.not eqT, false)]
noncomputable def mb0 : Code := ((loopsOf (Tryd.f71.body.getD .ret) []).getD 0 (.ret, [])).1
noncomputable def mk0 : List Item := ((loopsOf (Tryd.f71.body.getD .ret) []).getD 0 (.ret, [])).2
noncomputable def RunM (T : Tpl) (c : Cs) (l : LS) : Prop := (run Tryd.prog [(127, .same)] (spL []) 4000 true 71 ((⟨T.tm, T.nt, T.H, T.nl, c ++ T.cs, T.dep⟩ : Tpl).st (.code mb0 :: .inLoop mb0 :: mk0))).map (·.filterMap (sumL gR [M0])) = some [l]
def sm : Sub := ⟨[(0, .bin .add .i64 (.var 0) (.lit 1))], [], [], [], [(0, 0), (1, 1)]⟩
theorem mE : (run Tryd.prog [(127, .same)] (spL []) 4000 true 71 (entry Tryd.f71 (Tryd.f71.body.getD .ret) [sl, sl2] (ofP H2) 2 [(.cmp .leq (.var 10) (.lit 10000), true)])).map (·.filterMap (sumL gR [M0])) = some [.next 0 (.code (.loop mb0) :: mk0) [(.cmp .leq (.var 10) (.lit 10000), true)] ⟨[(0, .lit 0)], [], [], [], [(0, 0), (1, 1)]⟩] := by kernel_rfl
theorem mX : RunM M0 fEq (.next 0 (.inLoop mb0 :: mk0) (fEq ++ csM) sm) := by unfold RunM; kernel_rfl
theorem mN : RunM M0 (inI (.var 0) false) (.ret (.bool (.lit true)) (inI (.var 0) false ++ csM)) := by unfold RunM; kernel_rfl
def GM (v u : Value) (n : Nat) : GP := fun I _ _ V _ => V 0 = v ∧ V 1 = u ∧ I 10 = (n : Int)
def βM (w : World) (v u : Value) (n : Nat) : Base := ⟨w, [], GM v u n⟩
theorem noSp (β : Base) : CallOk Tryd.prog β (spL []) := spL_ok fun _ hp => by cases hp
section
variable {w0 : World} {v u : Value} {n : Nat} (hn : n ≤ 10000) (he : ∀ i, i < n → evRow v i = evRow u i)
include hn he
theorem loopM : ∀ ρ, (GP.at (GM v u n) ρ ∧ ∃ i : Nat, ρ.I 0 = i ∧ i ≤ n) → ∀ todo a w, todo = .inLoop mb0 :: mk0 ∨ todo = .code (.loop mb0) :: mk0 → SRel (βM w0 v u n) ρ (M0.st todo) a w → Goes Tryd.prog 71 (fun x w' => x = .bool true ∧ Framed w0 w') todo a w := by
  refine loop_goesS (n := 4000) (g := gR) (pl := true) (Ts := [M0]) (Q := fun x => x = .bool true) (β := βM w0 v u n) noCount ext1_ok (noSp _) follows rfl (fun ρ => GP.at (GM v u n) ρ ∧ ∃ i : Nat, ρ.I 0 = i ∧ i ≤ n) (fun ρ => ((n : Int) - ρ.I 0).toNat) (fun ρ hJ hH hcs hG ih => ?_)
  obtain ⟨⟨g0, g1, g2⟩, i, h0, hi⟩ := hJ
  have e0 : (IT.var 0).den ρ = some (i : Int) := congrArg some h0
  have e10 : (IT.var 10).den ρ = some (n : Int) := congrArg some g2
  have inI' : ∀ {b : Bool}, decide (i < n) = b → CRel ρ (inI (.var 0) b) := fun {b} hb => by
    refine CRel_cons.2 ⟨?_, CRel_nil.2 trivial⟩
    simp only [BT.den, e0, e10, intCmp, Option.some.injEq]
    rw [← hb, decide_eq_decide]; omega
  by_cases hlt : i < n
  · have hev := he i hlt
    have ec : ∀ j, selI v (i * 8 + j) = selI u (i * 8 + j) → (eqC j).den ρ = some true := fun j hj => by
      have a : (IT.sel 0 8 j (.var 0)).den ρ = some (selI v (i * 8 + j)) := by simp only [IT.den, g0, h0, Option.map_some, Int.toNat_natCast]
      have b : (IT.sel 1 8 j (.var 0)).den ρ = some (selI u (i * 8 + j)) := by simp only [IT.den, g1, h0, Option.map_some, Int.toNat_natCast]
      simp only [eqC, BT.den, a, b, intCmp, hj, beq_self_eq_true]
    have et : eqT.den ρ = some true := by
      simp only [evRow, Evt.mk.injEq] at hev
      obtain ⟨q0, q1, q2, q3, q4, q5, q6, q7⟩ := hev
      simp only [eqT, BT.den, ec 0 q0, ec 1 q1, ec 2 q2, ec 3 q3, ec 4 q4, ec 5 q5, ec 6 q6, ec 7 q7]
      rfl
    refine ⟨_, _, CRel_app.2 ⟨CRel_app.2 ⟨inI' (b := true) (decide_eq_true hlt), CRel_cons.2 ⟨notD et, CRel_nil.2 trivial⟩⟩, hcs⟩, mX, one (nextS rfl fun ρ' hle hG' => ?_)⟩
    have h0' : (sm.app ρ').I 0 = ((i + 1 : Nat) : Int) := by
      show IntKind.i64.wrap (ρ'.I 0 + 1) = _
      rw [hle.i, h0, wrapI (by omega) (by omega)]; simp
    have g2' : (sm.app ρ').I 10 = (n : Int) := by show ρ'.I 10 = _; rw [hle.i, g2]
    have hG2 : GP.at (GM v u n) (sm.app ρ') := ⟨by show ρ'.V 0 = _; rw [hle.v, g0], by show ρ'.V 1 = _; rw [hle.v, g1], g2'⟩
    refine ⟨hG2, ?_, fun a w r => ih _ ?_ ⟨hG2, i + 1, h0', by omega⟩ _ a w (.inl rfl) r⟩
    · have a0 : (IT.var 0).den (sm.app ρ') = some ((i + 1 : Nat) : Int) := congrArg some h0'
      have a10 : (IT.var 10).den (sm.app ρ') = some (n : Int) := congrArg some g2'
      refine CRel_app.2 ⟨CRel_cons.2 ⟨?_, CRel_cons.2 ⟨?_, CRel_nil.2 trivial⟩⟩, CRel_cons.2 ⟨?_, CRel_nil.2 trivial⟩⟩
      · simp only [BT.den, a0, litI, intCmp, Option.some.injEq, decide_eq_true_eq]; omega
      · simp only [BT.den, a0, a10, intCmp, Option.some.injEq, decide_eq_true_eq]; omega
      · simp only [BT.den, a10, litI, intCmp, Option.some.injEq, decide_eq_true_eq]; omega
    · show ((n : Int) - (sm.app ρ').I 0).toNat < ((n : Int) - ρ.I 0).toNat
      rw [h0', h0]; omega
  · exact ⟨_, _, CRel_app.2 ⟨inI' (b := false) (decide_eq_false hlt), hcs⟩, mN, one (retS (z := .bool true) (fun ρ' _ => rfl) rfl)⟩
end
theorem same71 (w : World) (v u : Value) (n b o cap b' o' cap' : Nat) (hn : n ≤ 10000) (h : RowAt w b o ks8 n v) (h' : RowAt w b' o' ks8 n u) (he : ∀ i, i < n → evRow v i = evRow u i) : Calls Tryd.prog 71 #[.slice (some ⟨b, o, none⟩) n cap, .slice (some ⟨b', o', none⟩) n cap'] w (fun e w' => e = .returned (.bool true) ∧ Framed w w') := by
  obtain ⟨ρ, hρ⟩ : ∃ ρ : Env, ρ = ⟨fun i => if i = 10 then n else if i = 11 then cap else if i = 12 then o else if i = 13 then o' else if i = 14 then cap' else 0, fun _ => false, fun _ => default, fun i => if i = 0 then v else u, fun i => if i = 0 then some b else if i = 1 then some b' else none, F0⟩ := ⟨_, rfl⟩
  have hV0 : ρ.V 0 = v := by rw [hρ]; rfl
  have hV1 : ρ.V 1 = u := by rw [hρ]; rfl
  have e10 : (IT.var 10).den ρ = some (n : Int) := by rw [hρ]; rfl
  have hG : GP.at (GM v u n) ρ := ⟨hV0, hV1, Option.some.inj e10⟩
  have hs := row2 (G := GM v u n) (ρ := ρ) (n := .var 10) (off := .var 12) (n' := .var 10) (off' := .var 13) (el := 77) (by rw [hV0]; exact h) (by rw [hV1]; exact h') e10 (by rw [hρ]; rfl) e10 (by rw [hρ]; rfl) (fun i => by rw [hρ]) hG
  have hx : AVal.denL ρ [sl, sl2] = some [.slice (some ⟨b, o, none⟩) n cap, .slice (some ⟨b', o', none⟩) n cap'] := by
    have h0 : natOf ((IT.var 12).den ρ) = some o := by rw [hρ]; rfl
    have h1 : natOf ((IT.var 10).den ρ) = some n := by rw [hρ]; rfl
    have h2 : natOf ((IT.var 11).den ρ) = some cap := by rw [hρ]; rfl
    have h3 : ρ.N 0 = some b := by rw [hρ]; rfl
    have h4 : natOf ((IT.var 13).den ρ) = some o' := by rw [hρ]; rfl
    have h5 : natOf ((IT.var 14).den ρ) = some cap' := by rw [hρ]; rfl
    have h6 : ρ.N 1 = some b' := by rw [hρ]; rfl
    simp only [AVal.denL, sl, sl2, AVal.den, h0, h1, h2, h3, h4, h5, h6]
  have hc : ∀ ρ' : Env, ρ'.I 10 = (n : Int) → CRel ρ' [(.cmp .leq (.var 10) (.lit 10000), true)] := fun ρ' e => by
    have a10 : (IT.var 10).den ρ' = some (n : Int) := congrArg some e
    refine CRel_cons.2 ⟨?_, CRel_nil.2 trivial⟩
    simp only [BT.den, a10, litI, intCmp, Option.some.injEq, decide_eq_true_eq]; omega
  have := calls_sums (β := βM w v u n) (Q := fun x => x = .bool true) noCount ext1_ok (noSp _) follows rfl Tryd.func71 rfl mE hx hs (hc ρ hG.2.2) (one (nextS (T := M0) rfl fun ρ' hle hG' => ?_))
  · exact this.mono fun e w' ⟨x, he, hq, hf⟩ => ⟨by rw [he, hq], hf⟩
  · have i0 : (Sub.app ⟨[(0, .lit 0)], [], [], [], [(0, 0), (1, 1)]⟩ ρ').I 0 = ((0 : Nat) : Int) := rfl
    have hG2 : GP.at (GM v u n) (Sub.app ⟨[(0, .lit 0)], [], [], [], [(0, 0), (1, 1)]⟩ ρ') := ⟨hG'.1, hG'.2.1, hG'.2.2⟩
    refine ⟨hG2, CRel_app.2 ⟨CRel_cons.2 ⟨rfl, CRel_cons.2 ⟨?_, CRel_nil.2 trivial⟩⟩, hc _ hG2.2.2⟩, fun a w' r => loopM hn he _ ⟨hG2, 0, i0, Nat.zero_le _⟩ _ a w' (.inr rfl) r⟩
    have a10 : (IT.var 10).den (Sub.app ⟨[(0, .lit 0)], [], [], [], [(0, 0), (1, 1)]⟩ ρ') = some (n : Int) := congrArg some hG2.2.2
    have a0 : (IT.var 0).den (Sub.app ⟨[(0, .lit 0)], [], [], [], [(0, 0), (1, 1)]⟩ ρ') = some ((0 : Nat) : Int) := rfl
    simp only [BT.den, a0, a10, intCmp, Option.some.injEq, decide_eq_true_eq]; omega
end Rd
end Go.Proofs.YtagdcclpibjfoaaDoor
end

/-
  Reading scripts: a row of events as a value; rows that a call hands out, taken over as such.
-/
section
namespace Go.Proofs.YtagdcclpibjfoaaDoor
open Go.Vm Txt
namespace Rd

-- A ROW OF EVENTS AS A VALUE
def rowV (L : List Int) : Value := .agg (Go.Vm.rowOf ks8 L).toArray
theorem row_inV {β : Base} {ρ : Env} {H : Heap} {nl : Nat} {w w' : World} {x : Value} {nT : IT} {a : Nat} {e : TypeId} {L : List Int} {m : Nat} (h : HRel β ρ H nl w) (r : RowOut w w' x e ks8 L m) (hn : nT.den ρ = some (m : Int)) (hV : ρ.V a = rowV L) :
    ∃ ρ', ρ.Le ρ' ∧ (AVal.slice (nl + 1) (.lit 0) nT (.nv nl)).den ρ' = some x ∧ HRel β ρ' (H.set (nl + 1) ⟨.arr (.var a) ks8 e nT (.lit 0) (some (.nv nl)), true⟩) (nl + 2) w' := by
  obtain ⟨b, cap, c0, f, rfl, hb, hob, hp, hcs, hf⟩ := r.row
  have h1 := h.num cap
  have hle1 : ρ.Le (ρ.put nl cap) := Env.le_put (h.fresh nl (Nat.le_refl _))
  have hle2 : (ρ.put nl cap).Le ((ρ.put nl cap).put (nl + 1) b) := Env.le_put (h1.fresh _ (Nat.le_refl _))
  have hcapd : (IT.nv nl).den ((ρ.put nl cap).put (nl + 1) b) = some (cap : Int) := by
    have : ((ρ.put nl cap).put (nl + 1) b).N nl = some cap := hle2.n _ _ (Env.put_same ..)
    simp only [IT.den, this]; rfl
  have hrel : (ABlk.arr (.var a) ks8 e nT (.lit 0) (some (.nv nl))).rel ((ρ.put nl cap).put (nl + 1) b) true (.cells c0 e f) := by
    refine ⟨Go.Vm.rowOf ks8 L, c0, f, e, m, 0, rfl, fun _ => rfl, ?_, rfl, ⟨Nat.zero_le _, by rw [List.drop_zero]; exact hp⟩, IT.den_mono (hle1.trans hle2) hn, rowOf_typed r.len, ⟨cap, hcapd, by rw [Nat.sub_zero]; exact hcs⟩, fun _ => hf⟩
    show aggCells (ρ.V a) = _
    rw [hV]; simp [rowV, aggCells]
  refine ⟨_, hle1.trans hle2, ?_, h1.adopt r.fr hb hob hrel⟩
  have e1 : natOf (nT.den ((ρ.put nl cap).put (nl + 1) b)) = some m := by rw [IT.den_mono (hle1.trans hle2) hn]; rfl
  have e2 : natOf ((IT.nv nl).den ((ρ.put nl cap).put (nl + 1) b)) = some cap := by rw [hcapd]; rfl
  have e0 : natOf ((IT.lit 0).den ((ρ.put nl cap).put (nl + 1) b)) = some 0 := rfl
  have e3 : ((ρ.put nl cap).put (nl + 1) b).N (nl + 1) = some b := Env.put_same ..
  simp only [AVal.den, e0, e1, e2, e3]
end Rd
end Go.Proofs.YtagdcclpibjfoaaDoor
end
