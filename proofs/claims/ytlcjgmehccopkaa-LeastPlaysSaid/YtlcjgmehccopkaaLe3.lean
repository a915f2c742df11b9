/-
  Least (3): container/heap's up and down as what is known of functions.
-/
import Derived.Test.YtlcjgmehccopkaaLe2
namespace Go.Proofs.Ytlcjgmehccopkaa
open Go.Vm Go.Vm.Le

/-- A stock's block: its third cell is the row. -/
structure StkOb (b1 n cap : Nat) (o : Obj) : Prop where
  ex : ∃ c fr x0 x1 x3, o = .cells c 51 fr ∧ c.toList = [x0, x1, .slice (some ⟨b1, 0, none⟩) n cap, x3]
def envU (n m x j : Int) (x0 x1 x3 : Value) (b0 b1 cap : Nat) : Env :=
  ⟨fun i => if i = 2 then n else if i = 3 then m else if i = 4 then x else j, fun _ => false, fun _ => default, fun i => if i = 6 then x0 else if i = 7 then x1 else x3, fun i => if i = 0 then some b0 else if i = 1 then some b1 else if i = 2 then some cap else none, F0⟩
theorem H2_get {l : Nat} {k : HB} (h : (ofP H2).get l = some k) : l = 0 ∧ k = stkB (.var 2) ∨ l = 1 ∧ k = rowB (.var 4) := by
  have := ofP_mem h
  rcases List.mem_cons.1 this with e | h
  · cases e; exact .inl ⟨rfl, rfl⟩
  · rcases List.mem_cons.1 h with e | h
    · cases e; exact .inr ⟨rfl, rfl⟩
    · cases h
theorem start_U {w : World} {b0 b1 n cap : Nat} {ob0 ob1 : Obj} {x : Int} {j : Int} {c : Array Value} {fr : Nat × Nat} {x0 x1 x3 : Value} (h0 : w.heap[b0]? = some ob0) (h1 : w.heap[b1]? = some ob1) (ho : ob0 = .cells c 51 fr) (hc : c.toList = [x0, x1, .slice (some ⟨b1, 0, none⟩) n cap, x3]) (hr : RowOb (decL x) cap ob1) (hne : b0 ≠ b1) :
    HRel ⟨w, [1], G0⟩ (envU n (decL x).length x j x0 x1 x3 b0 b1 cap) (ofP H2) 3 w := by
  refine ⟨fun l k hl => ?_, fun l l' k k' hl hl' hrw he => ?_, fun l k b hl hrw hb => ?_, fun i hi => ?_, fun l hl => ?_, Nat.le_refl _, fun _ _ _ => rfl, rfl, rfl, rfl, trivial, BigAt.none fun l k hl => by rcases H2_get hl with ⟨_, rfl⟩ | ⟨_, rfl⟩ <;> rfl⟩
  · rcases H2_get hl with ⟨rfl, rfl⟩ | ⟨rfl, rfl⟩
    · refine ⟨b0, ob0, rfl, h0, [x0, x1, .slice (some ⟨b1, 0, none⟩) n cap, x3], c, fr, ho, rfl, by rw [hc]; exact List.prefix_refl _, ?_, fun e => by cases e⟩
      show c.size = 4
      rw [← Array.length_toList, hc]; rfl
    · exact ⟨b1, ob1, rfl, h1, rel_row hr rfl rfl rfl rfl⟩
  · rcases H2_get hl with ⟨rfl, rfl⟩ | ⟨rfl, rfl⟩
    · cases hrw
    · rcases H2_get hl' with ⟨rfl, rfl⟩ | ⟨rfl, rfl⟩
      · exact absurd (Option.some.inj he).symm hne
      · rfl
  · rcases H2_get hl with ⟨rfl, rfl⟩ | ⟨rfl, rfl⟩
    · cases hrw
    · exact .inr ⟨1, List.mem_cons_self, hb⟩
  · show (if i = 0 then some b0 else if i = 1 then some b1 else if i = 2 then some cap else none) = none
    rw [if_neg (by omega), if_neg (by omega), if_neg (by omega)]
  · rw [List.mem_singleton.1 hl]; exact (by decide : 1 < 3)
theorem up22 {w : World} {b0 b1 n cap j : Nat} {ob0 ob1 : Obj} {x : Int} (h0 : w.heap[b0]? = some ob0) (h1 : w.heap[b1]? = some ob1) (hs : StkOb b1 n cap ob0) (hr : RowOb (decL x) cap ob1) (hne : b0 ≠ b1) (hn : n ≤ (decL x).length) (hm : n ≤ 1000000) (hj : j < n) :
    Calls Try.prog 22 #[.iface 53 (.pointer (some ⟨b0, 2, none⟩)), .int .i64 j] w (fun e w' => e = .returned (.tuple #[]) ∧ RStep b1 cap (upL (decL x) j) w w') := by
  obtain ⟨c, fr, x0, x1, x3, ho, hc⟩ := hs.ex
  have hH := start_U (j := (j : Int)) h0 h1 ho hc hr hne
  have hlen : (upL (decL x) j).length = (decL x).length := (up_perm j _ (by omega)).length_eq
  refine (calls_sumsO (β := ⟨w, [1], G0⟩) (R := UpR b1 cap (upL (decL x) j) w) noCount noExt noSp_ok follows Try.func22 rfl run_ue (xs := [.iface 53 (.pointer (some ⟨b0, 2, none⟩)), .int .i64 j]) rfl hH ?_ (fun s hs => ?_)).mono fun e w' ⟨v, he, hv, hf⟩ => ⟨by rw [he, hv], hf⟩
  · simp only [csU, CRel_cons, CRel_nil, and_true, BT.den, IT.den, envU, intCmp, Option.some.injEq, decide_eq_true_eq, if_true, if_false, Nat.reduceEqDiff]
    omega
  · simp only [sums_ue, List.mem_singleton] at hs
    subst hs
    refine ⟨fun l hl => by rw [List.mem_singleton.1 hl]; rfl, fun ρ' hle hc' T hT hG' => ?_⟩
    have hT : U0 = T := by simpa using hT
    subst hT
    have eI : ρ'.I = (envU n (decL x).length x j x0 x1 x3 b0 b1 cap).I := hle.i
    have i2 : ρ'.I 2 = (n : Int) := by rw [eI]; rfl
    have i3 : ρ'.I 3 = ((decL x).length : Int) := by rw [eI]; rfl
    have i4 : ρ'.I 4 = x := by rw [eI]; rfl
    have i5 : ρ'.I 5 = (j : Int) := by rw [eI]; rfl
    refine ⟨trivial, ?_, fun a w' r => loop_u (n := n) _ ?_ _ a w' (.inr rfl) r⟩
    · simp only [U0, csU, CRel_cons, CRel_nil, and_true, BT.den, den_lit, den_var, intCmp, Go.Vm.Sub.app, lk_cons, lk_nil, Nat.reduceEqDiff, if_true, if_false, i2, i3, i5, Option.getD_some, Option.some.injEq, decide_eq_true_eq]
      omega
    · refine ⟨i2, by rw [hlen]; exact i3, by rw [hlen]; exact hn, hm, hle.n _ _ rfl, hle.n _ _ rfl, j, i5, hj, ?_, ?_⟩
      · show (decL (ρ'.I 4)).length = _
        rw [i4, hlen]
      · show upL (decL (ρ'.I 4)) j = _
        rw [i4]
theorem down24 {w : World} {b0 b1 n cap m : Nat} {ob0 ob1 : Obj} {x : Int} (h0 : w.heap[b0]? = some ob0) (h1 : w.heap[b1]? = some ob1) (hs : StkOb b1 n cap ob0) (hr : RowOb (decL x) cap ob1) (hne : b0 ≠ b1) (hn : n ≤ (decL x).length) (hm : n ≤ 1000000) (hj : m < n) :
    Calls Try.prog 24 #[.iface 53 (.pointer (some ⟨b0, 2, none⟩)), .int .i64 0, .int .i64 m] w (fun e w' => (∃ b, e = .returned (.bool b)) ∧ RStep b1 cap (downL (decL x) 0 m) w w') := by
  obtain ⟨c, fr, x0, x1, x3, ho, hc⟩ := hs.ex
  have hH := start_U (j := (m : Int)) h0 h1 ho hc hr hne
  have hlen : (downL (decL x) 0 m).length = (decL x).length := (down_same _ 0 m (decL x) (Nat.le_refl _) (by omega)).1.length_eq
  refine (calls_sumsO (β := ⟨w, [1], G0⟩) (R := DnR b1 cap (downL (decL x) 0 m) w) noCount noExt noSp_ok follows Try.func24 rfl run_de (xs := [.iface 53 (.pointer (some ⟨b0, 2, none⟩)), .int .i64 0, .int .i64 m]) rfl hH ?_ (fun s hs => ?_)).mono fun e w' ⟨v, he, ⟨b, hv⟩, hf⟩ => ⟨⟨b, by rw [he, hv]⟩, hf⟩
  · simp only [csDe, CRel_cons, CRel_nil, and_true, BT.den, IT.den, envU, intCmp, Option.some.injEq, decide_eq_true_eq, if_true, if_false, Nat.reduceEqDiff]
    omega
  · rw [List.mem_singleton.1 hs]
    refine ⟨fun l hl => by rw [List.mem_singleton.1 hl]; rfl, fun ρ' hle hc' T hT hG' => ?_⟩
    have hT : D0 = T := by simpa using hT
    subst hT
    have eI : ρ'.I = (envU n (decL x).length x m x0 x1 x3 b0 b1 cap).I := hle.i
    have i2 : ρ'.I 2 = (n : Int) := by rw [eI]; rfl
    have i3 : ρ'.I 3 = ((decL x).length : Int) := by rw [eI]; rfl
    have i4 : ρ'.I 4 = x := by rw [eI]; rfl
    have i6 : ρ'.I 6 = (m : Int) := by rw [eI]; rfl
    refine ⟨trivial, ?_, fun a w' r => loop_d (n := n) (m := m) _ ?_ _ a w' (.inr rfl) r⟩
    · simp only [D0, csD, CRel_cons, CRel_nil, and_true, BT.den, den_lit, den_var, intCmp, Go.Vm.Sub.app, lk_cons, lk_nil, Nat.reduceEqDiff, if_true, if_false, i2, i3, i6, Option.getD_some, Option.some.injEq, decide_eq_true_eq]
      omega
    · refine ⟨i2, by rw [hlen]; exact i3, by rw [hlen]; exact hn, hm, i6, hj, hle.n _ _ rfl, hle.n _ _ rfl, 0, rfl, by omega, ?_, ?_⟩
      · show (decL (ρ'.I 4)).length = _
        rw [i4, hlen]
      · show downL (decL (ρ'.I 4)) 0 m = _
        rw [i4]

-- AS WHAT IS KNOWN OF FUNCTIONS
def sure (op : BinOp) (a b : IT) (cs : Cs) : Bool := dead ((.cmp op a b, false) :: cs)
theorem sure_ok {op : BinOp} {a b : IT} {cs : Cs} {ρ : Env} {x y : Int} {r : Bool} (h : sure op a b cs = true) (hc : CRel ρ cs) (ha : a.den ρ = some x) (hb : b.den ρ = some y) (hr : intCmp op x y = some r) : r = true := by
  cases r with
  | true => rfl
  | false => exact (dead_ok h ρ (Env.Le.refl ρ) (CRel_cons.2 ⟨by simp only [BT.den, ha, hb, hr], hc⟩)).elim
def upC (x j : Int) : Int := encL (upL (decL x) j.toNat)
def downC (x m : Int) : Int := encL (downL (decL x) 0 m.toNat)
def okRow (q q' : Nat) (j len an : IT) (cs : Cs) : Bool := Nat.beq q q' && sure .geq j (.lit 0) cs && sure .lss j len cs && sure .leq len an cs && sure .leq len (.lit 1000000) cs
def spUp : SpG := fun args H nl cs => match args with
  | [.iface 53 (.ptr l (.lit 2)), .int .i64 j] => match H.get l with
    | some ⟨.cells [_, _, .slice m (.lit 0) len (.nv q), _] 51 none, _⟩ => match H.get m with
      | some ⟨.arr t [.i64] 3 an (.lit 0) (some (.nv q')), true⟩ => match t.codeT with
        | some c => cond (okRow q q' j len an cs) (some [.ret (.tuple []) (H.set m ⟨.arr (.code [.i64] (.fn 70 c j)) [.i64] 3 an (.lit 0) (some (.nv q)), true⟩) nl cs]) none
        | none => none
      | _ => none
    | _ => none
  | _ => none
def spDown : SpG := fun args H nl cs => match args with
  | [.iface 53 (.ptr l (.lit 2)), .int .i64 (.lit 0), .int .i64 j] => match H.get l with
    | some ⟨.cells [_, _, .slice m (.lit 0) len (.nv q), _] 51 none, _⟩ => match H.get m with
      | some ⟨.arr t [.i64] 3 an (.lit 0) (some (.nv q')), true⟩ => match t.codeT with
        | some c => cond (okRow q q' j len an cs) (some [.ret (.bool (.cmp .eql (.nv nl) (.lit 1))) (H.set m ⟨.arr (.code [.i64] (.fn 71 c j)) [.i64] 3 an (.lit 0) (some (.nv q)), true⟩) (nl + 1) cs]) none
        | none => none
      | _ => none
    | _ => none
  | _ => none
/-- What is there, where one of them is called. -/
theorem at_row {β : Base} {ρ : Env} {H : Heap} {nl : Nat} {w : World} {cs : Cs} (hh : HRel β ρ H nl w) (hc : CRel ρ cs) {l m q q' : Nat} {v0 v1 v3 : AVal} {len an j c : IT} {rw : Bool} {t : AT} (hl : H.get l = some ⟨.cells [v0, v1, .slice m (.lit 0) len (.nv q), v3] 51 none, rw⟩)
    (hm : H.get m = some ⟨.arr t [.i64] 3 an (.lit 0) (some (.nv q')), true⟩) (ht : t.codeT = some c) (hok : okRow q q' j len an cs = true) {pv jv : Value} (hp : (AVal.iface 53 (.ptr l (.lit 2))).den ρ = some pv) (hj : (AVal.int .i64 j).den ρ = some jv) :
    ∃ b0 b1 n cap jn ob0 ob1 x, pv = .iface 53 (.pointer (some ⟨b0, 2, none⟩)) ∧ jv = .int .i64 (jn : Nat) ∧ j.den ρ = some (jn : Int) ∧ c.den ρ = some x ∧ an.den ρ = some ((decL x).length : Int) ∧ ρ.N m = some b1 ∧ ρ.N q = some cap ∧ w.heap[b0]? = some ob0 ∧ w.heap[b1]? = some ob1 ∧ StkOb b1 n cap ob0 ∧ RowOb (decL x) cap ob1 ∧ b0 ≠ b1 ∧ n ≤ (decL x).length ∧ n ≤ 1000000 ∧ jn < n := by
  simp only [okRow, Bool.and_eq_true] at hok
  obtain ⟨⟨⟨⟨hq, s1⟩, s2⟩, s3⟩, s4⟩ := hok
  obtain rfl := Nat.eq_of_beq_eq_true hq
  obtain ⟨b0, ob0, hN0, hob0, ys, ca, fr, ho, hd, hpre, htl, _⟩ := hh.blk l _ hl
  obtain ⟨b1, ob1, hN1, hob1, hrel⟩ := hh.blk m _ hm
  obtain ⟨x, cap, hx, hal, hN2, hrow⟩ := row_rel hrel ht
  obtain ⟨jz, rfl, hjz⟩ := den_int hj
  simp only [AVal.denL] at hd
  cases h0 : v0.den ρ with
  | none => rw [h0] at hd; cases hd
  | some y0 =>
  cases h1 : v1.den ρ with
  | none => rw [h0, h1] at hd; cases hd
  | some y1 =>
  cases h2 : (AVal.slice m (.lit 0) len (.nv q)).den ρ with
  | none => rw [h0, h1, h2] at hd; cases hd
  | some y2 =>
  cases h3 : v3.den ρ with
  | none => rw [h0, h1, h2, h3] at hd; cases hd
  | some y3 =>
  rw [h0, h1, h2, h3] at hd
  cases hd
  obtain ⟨bb, o, n, c2, rfl, hNb, hoff, hlen, hcap⟩ := den_slice h2
  rw [hN1] at hNb; cases hNb
  have ho0 : o = 0 := by
    have e : (0 : Int) = Int.ofNat o := Option.some.inj hoff
    have e9 : Int.ofNat o = (o : Int) := rfl
    omega
  subst ho0
  have hc2 : c2 = cap := by
    simp only [IT.den, hN2] at hcap
    have e : Int.ofNat cap = Int.ofNat c2 := Option.some.inj hcap
    exact (Int.ofNat.inj e).symm
  subst hc2
  have hlen' : len.den ρ = some (n : Int) := hlen
  have q1 := sure_ok s1 hc hjz (show (IT.lit 0).den ρ = some 0 from rfl) rfl
  have q2 := sure_ok s2 hc hjz hlen' rfl
  have q3 := sure_ok s3 hc hlen' hal rfl
  have q4 := sure_ok s4 hc hlen' (show (IT.lit 1000000).den ρ = some 1000000 from rfl) rfl
  simp only [decide_eq_true_eq] at q1 q2 q3 q4
  have hsz : ca.size = 4 := htl
  have hca : ca.toList = [y0, y1, .slice (some ⟨b1, 0, none⟩) n c2, y3] := (hpre.eq_of_length (show 4 = ca.toList.length by rw [Array.length_toList, hsz])).symm
  have hne : l ≠ m := fun e => by
    rw [e, hm] at hl; cases hl
  have hbne : b0 ≠ b1 := fun e => by
    have := hh.inj m l _ _ hm hl rfl (by rw [hN1, hN0, e])
    exact hne this.symm
  obtain ⟨jn, rfl⟩ := Int.eq_ofNat_of_zero_le q1
  have hpv : pv = .iface 53 (.pointer (some ⟨b0, 2, none⟩)) := by
    have e2 : natOf ((IT.lit 2).den ρ) = some 2 := rfl
    simp only [AVal.den, hN0, e2, Option.map_some, Option.some.injEq] at hp
    exact hp.symm
  exact ⟨b0, b1, n, c2, jn, ob0, ob1, x, hpv, rfl, hjz, hx, hal, hN1, hN2, hob0, hob1, ⟨ca, fr, y0, y1, y3, ho, hca⟩, hrow, hbne, by omega, by omega, by omega⟩
def GU (β : Base) : Prop := ∀ I B S V F, β.G I B S V F → F 70 = upC ∧ F 71 = downC
theorem spUp_ok {β : Base} (hG : GU β) : SpGOk Try.prog β 22 spUp := by
  intro args H nl cs ls ρ w xs hr hx hh hc
  unfold spUp at hr
  split at hr
  rotate_left
  · cases hr
  rename_i l j
  split at hr
  rotate_left
  · cases hr
  rename_i v0 v1 m len q v3 rw hl
  split at hr
  rotate_left
  · cases hr
  rename_i t an q' hm
  split at hr
  rotate_left
  · cases hr
  rename_i c ht
  cases hok : okRow q q' j len an cs with
  | false => rw [hok] at hr; cases hr
  | true =>
  rw [hok] at hr
  simp only [cond_true, Option.some.injEq] at hr
  subst hr
  simp only [AVal.denL] at hx
  cases hp : (AVal.iface 53 (.ptr l (.lit 2))).den ρ with
  | none => rw [hp] at hx; cases hx
  | some pv =>
  cases hj : (AVal.int .i64 j).den ρ with
  | none => rw [hp, hj] at hx; cases hx
  | some jv =>
  rw [hp, hj] at hx
  cases hx
  obtain ⟨b0, b1, n, cap, jn, ob0, ob1, x, rfl, rfl, hjd, hxd, han, hN1, hN2, h0, h1, hs, hrow, hne, hn, hm6, hjn⟩ := at_row hh hc hl hm ht hok hp hj
  obtain ⟨g1, _⟩ := hG _ _ _ _ _ hh.g
  have hlen : (upL (decL x) jn).length = (decL x).length := (up_perm jn _ (by omega)).length_eq
  refine (up22 h0 h1 hs hrow hne hn hm6 hjn).mono fun e w' ⟨he, hst⟩ => ⟨_, he, _, _, _, _, ρ, List.mem_cons_self, Env.Le.refl ρ, rfl, hst.rel hh hm rfl hN1 (x := upC x jn) ?_ (by rw [upC, decL_encL, Int.toNat_natCast]) (by rw [hlen]; exact han) hN2, hc⟩
  simp only [IT.den, hxd, hjd, g1]
theorem spDown_ok {β : Base} (hG : GU β) : SpGOk Try.prog β 24 spDown := by
  intro args H nl cs ls ρ w xs hr hx hh hc
  unfold spDown at hr
  split at hr
  rotate_left
  · cases hr
  rename_i l j
  split at hr
  rotate_left
  · cases hr
  rename_i v0 v1 m len q v3 rw hl
  split at hr
  rotate_left
  · cases hr
  rename_i t an q' hm
  split at hr
  rotate_left
  · cases hr
  rename_i c ht
  cases hok : okRow q q' j len an cs with
  | false => rw [hok] at hr; cases hr
  | true =>
  rw [hok] at hr
  simp only [cond_true, Option.some.injEq] at hr
  subst hr
  simp only [AVal.denL] at hx
  cases hp : (AVal.iface 53 (.ptr l (.lit 2))).den ρ with
  | none => rw [hp] at hx; cases hx
  | some pv =>
  cases hj : (AVal.int .i64 j).den ρ with
  | none =>
    rw [hp, hj] at hx
    simp only [AVal.den, IT.den, Option.map_some] at hx
    cases hx
  | some jv =>
  rw [hp, hj] at hx
  simp only [AVal.den, IT.den, Option.map_some] at hx
  cases hx
  obtain ⟨b0, b1, n, cap, jn, ob0, ob1, x, rfl, rfl, hjd, hxd, han, hN1, hN2, h0, h1, hs, hrow, hne, hn, hm6, hjn⟩ := at_row hh hc hl hm ht hok hp hj
  obtain ⟨_, g1⟩ := hG _ _ _ _ _ hh.g
  have hlen : (downL (decL x) 0 jn).length = (decL x).length := (down_same _ 0 jn (decL x) (Nat.le_refl _) (by omega)).1.length_eq
  refine (down24 h0 h1 hs hrow hne hn hm6 hjn).mono fun e w' ⟨⟨b, he⟩, hst⟩ => ?_
  have h2 := (hst.rel (ct := .fn 71 c j) hh hm rfl hN1 (x := downC x jn) (by simp only [IT.den, hxd, hjd, g1]) (by rw [downC, decL_encL, Int.toNat_natCast]) (by rw [hlen]; exact han) hN2).num (if b then 1 else 0)
  have hle := Env.le_put (b := if b then 1 else 0) (hh.fresh nl (Nat.le_refl _))
  refine ⟨_, he, _, _, _, _, ρ.put nl (if b then 1 else 0), List.mem_cons_self, hle, ?_, h2, hc.mono hle⟩
  simp only [AVal.den, BT.den, IT.den, Env.put_same, Option.map_some, intCmp]
  cases b <;> rfl
end Go.Proofs.Ytlcjgmehccopkaa
