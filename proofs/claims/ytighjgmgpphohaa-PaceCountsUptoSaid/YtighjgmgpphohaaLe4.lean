/- Least (3): container/heap's up and down as what is known of functions. -/
import Derived.Test.YtighjgmgpphohaaLe2
section
namespace Go.Proofs.Ytighjgmgpphohaa
open Go.Vm Go.Vm.Le
structure StkOb (b1 n cap : Nat) (o : Obj) : Prop where
 ex : ∃ c fr x0 x1 x3, o = .cells c 103 fr /\ c.toList = [x0, x1, .slice (some ⟨b1, 0, none⟩) n cap, x3]
def envU (n m x j : Int) (x0 x1 x3 : Value) (b0 b1 cap : Nat) : Env :=
 ⟨fun i => if i = 2 then n else if i = 3 then m else if i = 4 then x else j, fun _ => false, fun _ => default, fun i => if i = 6 then x0 else if i = 7 then x1 else x3, fun i => if i = 0 then some b0 else if i = 1 then some b1 else if i = 2 then some cap else none, F0⟩
theorem H2_get {l : Nat} {k : HB} (h : (ofP H2).get l = some k) : l = 0 /\ k = stkB (.var 2) ∨ l = 1 /\ k = rowB (.var 4) := by
 have := ofP_mem h
 rcases List.mem_cons.1 this with e | h
 · cases e; exact .inl ⟨rfl, rfl⟩
 · rcases List.mem_cons.1 h with e | h
   · cases e; exact .inr ⟨rfl, rfl⟩
   · cases h
theorem start_U {w : World} {b0 b1 n cap : Nat} {ob0 ob1 : Obj} {x : Int} {j : Int} {c : Array Value} {fr : Nat × Nat} {x0 x1 x3 : Value} (h0 : w.heap[b0]? = some ob0) (h1 : w.heap[b1]? = some ob1) (ho : ob0 = .cells c 103 fr) (hc : c.toList = [x0, x1, .slice (some ⟨b1, 0, none⟩) n cap, x3]) (hr : RowOb (decL x) cap ob1) (hne : b0 ≠ b1) :
 HRel ⟨w, (· = b1), G0⟩ (envU n (decL x).length x j x0 x1 x3 b0 b1 cap) (ofP H2) 3 w := by
 refine ⟨fun l k hl => ?_, fun l l' k k' hl hl' hrw he => ?_, fun l k b hl hrw hb => ?_, fun i hi => ?_, trivial, Nat.le_refl _, fun _ _ _ => rfl, rfl, rfl, rfl, trivial, BigAt.none fun l k hl => by rcases H2_get hl with ⟨_, rfl⟩ | ⟨_, rfl⟩ <;> rfl⟩
 · rcases H2_get hl with ⟨rfl, rfl⟩ | ⟨rfl, rfl⟩
   · refine ⟨b0, ob0, rfl, h0, [x0, x1, .slice (some ⟨b1, 0, none⟩) n cap, x3], c, fr, ho, rfl, by rw [hc]; exact List.prefix_refl _, ?_, fun e => by cases e⟩
     show c.size = 4
     rw [<- Array.length_toList, hc]; rfl
   · exact ⟨b1, ob1, rfl, h1, rel_row hr rfl rfl rfl rfl⟩
 · rcases H2_get hl with ⟨rfl, rfl⟩ | ⟨rfl, rfl⟩
   · cases hrw
   · rcases H2_get hl' with ⟨rfl, rfl⟩ | ⟨rfl, rfl⟩
     · exact absurd (Option.some.inj he).symm hne
     · rfl
 · rcases H2_get hl with ⟨rfl, rfl⟩ | ⟨rfl, rfl⟩
   · cases hrw
   · exact .inr (Option.some.inj hb).symm
 · show (if i = 0 then some b0 else if i = 1 then some b1 else if i = 2 then some cap else none) = none
   rw [if_neg (by omega), if_neg (by omega), if_neg (by omega)]
theorem up22 {w : World} {b0 b1 n cap j : Nat} {ob0 ob1 : Obj} {x : Int} (h0 : w.heap[b0]? = some ob0) (h1 : w.heap[b1]? = some ob1) (hs : StkOb b1 n cap ob0) (hr : RowOb (decL x) cap ob1) (hne : b0 ≠ b1) (hn : n <= (decL x).length) (hm : n <= 1000000) (hj : j < n) :
 Calls Try.prog 76 #[.iface 125 (.pointer (some ⟨b0, 2, none⟩)), .int .i64 j] w (fun e w' => e = .returned (.tuple #[]) /\ RStep b1 cap (upL (decL x) j) w w') := by
 obtain ⟨c, fr, x0, x1, x3, ho, hc⟩ := hs.ex
 have hH := start_U (j := (j : Int)) h0 h1 ho hc hr hne
 have hlen : (upL (decL x) j).length = (decL x).length := (up_perm j _ (by omega)).length_eq
 refine (calls_sumsO (β := ⟨w, (· = b1), G0⟩) (R := UpR b1 cap (upL (decL x) j) w) noCount noExt noSp_ok follows Try.func76 rfl run_ue (xs := [.iface 125 (.pointer (some ⟨b0, 2, none⟩)), .int .i64 j]) rfl hH ?_ (fun s hs => ?_)).mono fun e w' ⟨v, he, hv, hf⟩ => ⟨by rw [he, hv], hf⟩
 · simp only [csU, CRel_cons, CRel_nil, and_true, BT.den, IT.den, envU, intCmp, Option.some.injEq, decide_eq_true_eq, if_true, if_false, Nat.reduceEqDiff]
   omega
 · simp only [sums_ue, List.mem_singleton] at hs
   subst hs
   refine ⟨trivial, fun ρ' hle hc' T hT hG' => ?_⟩
   have hT : U0 = T := by simpa using hT
   subst hT
   have eI : ρ'.I = (envU n (decL x).length x j x0 x1 x3 b0 b1 cap).I := hle.i
   have i2 : ρ'.I 2 = (n : Int) := by rw [eI]; rfl
   have i3 : ρ'.I 3 = ((decL x).length : Int) := by rw [eI]; rfl
   have i4 : ρ'.I 4 = x := by rw [eI]; rfl
   have i5 : ρ'.I 5 = (j : Int) := by rw [eI]; rfl
   refine ⟨trivial, ?_, fun a w' r => loop_u (n := n) _ ?_ _ a w' (.inr rfl) r⟩
   · simp only [U0, csU, CRel_cons, CRel_nil, and_true, BT.den, den_lit, den_var, intCmp, Go.Vm.Sub.app, lk_cons, lk_nil, Nat.reduceEqDiff, if_true, if_false, i2, i3, i5, Option.getD_some, Option.some.injEq, decide_eq_true_eq]
     omega
   · refine ⟨i2, by rw [hlen]; exact i3, by rw [hlen]; exact hn, hm, hle.n _ _ rfl, hle.n _ _ rfl, j, i5, hj, ?_, ?_⟩
     · show (decL (ρ'.I 4)).length = _
       rw [i4, hlen]
     · show upL (decL (ρ'.I 4)) j = _
       rw [i4]
theorem down24 {w : World} {b0 b1 n cap m : Nat} {ob0 ob1 : Obj} {x : Int} (h0 : w.heap[b0]? = some ob0) (h1 : w.heap[b1]? = some ob1) (hs : StkOb b1 n cap ob0) (hr : RowOb (decL x) cap ob1) (hne : b0 ≠ b1) (hn : n <= (decL x).length) (hm : n <= 1000000) (hj : m < n) :
 Calls Try.prog 74 #[.iface 125 (.pointer (some ⟨b0, 2, none⟩)), .int .i64 0, .int .i64 m] w (fun e w' => (∃ b, e = .returned (.bool b)) /\ RStep b1 cap (downL (decL x) 0 m) w w') := by
 obtain ⟨c, fr, x0, x1, x3, ho, hc⟩ := hs.ex
 have hH := start_U (j := (m : Int)) h0 h1 ho hc hr hne
 have hlen : (downL (decL x) 0 m).length = (decL x).length := (down_same _ 0 m (decL x) (Nat.le_refl _) (by omega)).1.length_eq
 refine (calls_sumsO (β := ⟨w, (· = b1), G0⟩) (R := DnR b1 cap (downL (decL x) 0 m) w) noCount noExt noSp_ok follows Try.func74 rfl run_de (xs := [.iface 125 (.pointer (some ⟨b0, 2, none⟩)), .int .i64 0, .int .i64 m]) rfl hH ?_ (fun s hs => ?_)).mono fun e w' ⟨v, he, ⟨b, hv⟩, hf⟩ => ⟨⟨b, by rw [he, hv]⟩, hf⟩
 · simp only [csDe, CRel_cons, CRel_nil, and_true, BT.den, IT.den, envU, intCmp, Option.some.injEq, decide_eq_true_eq, if_true, if_false, Nat.reduceEqDiff]
   omega
 · rw [List.mem_singleton.1 hs]
   refine ⟨trivial, fun ρ' hle hc' T hT hG' => ?_⟩
   have hT : D0 = T := by simpa using hT
   subst hT
   have eI : ρ'.I = (envU n (decL x).length x m x0 x1 x3 b0 b1 cap).I := hle.i
   have i2 : ρ'.I 2 = (n : Int) := by rw [eI]; rfl
   have i3 : ρ'.I 3 = ((decL x).length : Int) := by rw [eI]; rfl
   have i4 : ρ'.I 4 = x := by rw [eI]; rfl
   have i6 : ρ'.I 6 = (m : Int) := by rw [eI]; rfl
   refine ⟨trivial, ?_, fun a w' r => loop_d (n := n) (m := m) _ ?_ _ a w' (.inr rfl) r⟩
   · simp only [D0, csD, CRel_cons, CRel_nil, and_true, BT.den, den_lit, den_var, intCmp, Go.Vm.Sub.app, lk_cons, lk_nil, Nat.reduceEqDiff, if_true, if_false, i2, i3, i6, Option.getD_some, Option.some.injEq, decide_eq_true_eq]
     omega
   · refine ⟨i2, by rw [hlen]; exact i3, by rw [hlen]; exact hn, hm, i6, hj, hle.n _ _ rfl, hle.n _ _ rfl, 0, rfl, by omega, ?_, ?_⟩
     · show (decL (ρ'.I 4)).length = _
       rw [i4, hlen]
     · show downL (decL (ρ'.I 4)) 0 m = _
       rw [i4]
def sure (op : BinOp) (a b : IT) (cs : Cs) : Bool := dead ((.cmp op a b, false) :: cs)
theorem sure_ok {op : BinOp} {a b : IT} {cs : Cs} {ρ : Env} {x y : Int} {r : Bool} (h : sure op a b cs = true) (hc : CRel ρ cs) (ha : a.den ρ = some x) (hb : b.den ρ = some y) (hr : intCmp op x y = some r) : r = true := by
 cases r with
 | true => rfl
 | false => exact (dead_ok h ρ (Env.Le.refl ρ) (CRel_cons.2 ⟨by simp only [BT.den, ha, hb, hr], hc⟩)).elim
def upC (x j : Int) : Int := encL (upL (decL x) j.toNat)
def downC (x m : Int) : Int := encL (downL (decL x) 0 m.toNat)
def okRow (q q' : Nat) (j len an : IT) (cs : Cs) : Bool := Nat.beq q q' && sure .geq j (.lit 0) cs && sure .lss j len cs && sure .leq len an cs && sure .leq len (.lit 1000000) cs
def spUp : SpG := fun args H nl cs => match args with
 | [.iface 125 (.ptr l (.lit 2)), .int .i64 j] => match H.get l with
  | some ⟨.cells [_, _, .slice m (.lit 0) len (.nv q), _] 103 none, _⟩ => match H.get m with
   | some ⟨.arr t [.i64] 3 an (.lit 0) (some (.nv q')), true⟩ => match t.codeT with
    | some c => cond (okRow q q' j len an cs) (some [.ret (.tuple []) (H.set m ⟨.arr (.code [.i64] (.fn 70 c j)) [.i64] 3 an (.lit 0) (some (.nv q)), true⟩) nl cs]) none
    | none => none
   | _ => none
  | _ => none
 | _ => none
def spDown : SpG := fun args H nl cs => match args with
 | [.iface 125 (.ptr l (.lit 2)), .int .i64 (.lit 0), .int .i64 j] => match H.get l with
  | some ⟨.cells [_, _, .slice m (.lit 0) len (.nv q), _] 103 none, _⟩ => match H.get m with
   | some ⟨.arr t [.i64] 3 an (.lit 0) (some (.nv q')), true⟩ => match t.codeT with
    | some c => cond (okRow q q' j len an cs) (some [.ret (.bool (.cmp .eql (.nv nl) (.lit 1))) (H.set m ⟨.arr (.code [.i64] (.fn 71 c j)) [.i64] 3 an (.lit 0) (some (.nv q)), true⟩) (nl + 1) cs]) none
    | none => none
   | _ => none
  | _ => none
 | _ => none
theorem at_row {β : Base} {ρ : Env} {H : Heap} {nl : Nat} {w : World} {cs : Cs} (hh : HRel β ρ H nl w) (hc : CRel ρ cs) {l m q q' : Nat} {v0 v1 v3 : AVal} {len an j c : IT} {rw : Bool} {t : AT} (hl : H.get l = some ⟨.cells [v0, v1, .slice m (.lit 0) len (.nv q), v3] 103 none, rw⟩)
 (hm : H.get m = some ⟨.arr t [.i64] 3 an (.lit 0) (some (.nv q')), true⟩) (ht : t.codeT = some c) (hok : okRow q q' j len an cs = true) {pv jv : Value} (hp : (AVal.iface 125 (.ptr l (.lit 2))).den ρ = some pv) (hj : (AVal.int .i64 j).den ρ = some jv) :
 ∃ b0 b1 n cap jn ob0 ob1 x, pv = .iface 125 (.pointer (some ⟨b0, 2, none⟩)) /\ jv = .int .i64 (jn : Nat) /\ j.den ρ = some (jn : Int) /\ c.den ρ = some x /\ an.den ρ = some ((decL x).length : Int) /\ ρ.N m = some b1 /\ ρ.N q = some cap /\ w.heap[b0]? = some ob0 /\ w.heap[b1]? = some ob1 /\ StkOb b1 n cap ob0 /\ RowOb (decL x) cap ob1 /\ b0 ≠ b1 /\ n <= (decL x).length /\ n <= 1000000 /\ jn < n := by
 simp only [okRow, Bool.and_eq_true] at hok
 obtain ⟨⟨⟨⟨hq, s1⟩, s2⟩, s3⟩, s4⟩ := hok
 obtain rfl := Nat.eq_of_beq_eq_true hq
 obtain ⟨b0, ob0, hN0, hob0, ys, ca, fr, ho, hd, hpre, htl, _⟩ := hh.blk l _ hl
 obtain ⟨b1, ob1, hN1, hob1, hrel⟩ := hh.blk m _ hm
 obtain ⟨x, cap, hx, hal, hN2, hrow⟩ := row_rel hrel ht
 obtain ⟨jz, rfl, hjz⟩ := den_int hj
 simp only [AVal.denL] at hd
 cases h0 : v0.den ρ with
 | none => rw [h0] at hd; cases hd
 | some y0 =>
 cases h1 : v1.den ρ with
 | none => rw [h0, h1] at hd; cases hd
 | some y1 =>
 cases h2 : (AVal.slice m (.lit 0) len (.nv q)).den ρ with
 | none => rw [h0, h1, h2] at hd; cases hd
 | some y2 =>
 cases h3 : v3.den ρ with
 | none => rw [h0, h1, h2, h3] at hd; cases hd
 | some y3 =>
 rw [h0, h1, h2, h3] at hd
 cases hd
 obtain ⟨bb, o, n, c2, rfl, hNb, hoff, hlen, hcap⟩ := den_slice h2
 rw [hN1] at hNb; cases hNb
 have ho0 : o = 0 := by
  have e : (0 : Int) = Int.ofNat o := Option.some.inj hoff
  have e9 : Int.ofNat o = (o : Int) := rfl
  omega
 subst ho0
 have hc2 : c2 = cap := by
  simp only [IT.den, hN2] at hcap
  have e : Int.ofNat cap = Int.ofNat c2 := Option.some.inj hcap
  exact (Int.ofNat.inj e).symm
 subst hc2
 have hlen' : len.den ρ = some (n : Int) := hlen
 have q1 := sure_ok s1 hc hjz (show (IT.lit 0).den ρ = some 0 from rfl) rfl
 have q2 := sure_ok s2 hc hjz hlen' rfl
 have q3 := sure_ok s3 hc hlen' hal rfl
 have q4 := sure_ok s4 hc hlen' (show (IT.lit 1000000).den ρ = some 1000000 from rfl) rfl
 simp only [decide_eq_true_eq] at q1 q2 q3 q4
 have hsz : ca.size = 4 := htl
 have hca : ca.toList = [y0, y1, .slice (some ⟨b1, 0, none⟩) n c2, y3] := (hpre.eq_of_length (show 4 = ca.toList.length by rw [Array.length_toList, hsz])).symm
 have hne : l ≠ m := fun e => by
  rw [e, hm] at hl; cases hl
 have hbne : b0 ≠ b1 := fun e => by
  have := hh.inj m l _ _ hm hl rfl (by rw [hN1, hN0, e])
  exact hne this.symm
 obtain ⟨jn, rfl⟩ := Int.eq_ofNat_of_zero_le q1
 have hpv : pv = .iface 125 (.pointer (some ⟨b0, 2, none⟩)) := by
  have e2 : natOf ((IT.lit 2).den ρ) = some 2 := rfl
  simp only [AVal.den, hN0, e2, Option.map_some, Option.some.injEq] at hp
  exact hp.symm
 exact ⟨b0, b1, n, c2, jn, ob0, ob1, x, hpv, rfl, hjz, hx, hal, hN1, hN2, hob0, hob1, ⟨ca, fr, y0, y1, y3, ho, hca⟩, hrow, hbne, by omega, by omega, by omega⟩
def GU (β : Base) : Prop := ∀ I B S V F, β.G I B S V F -> F 70 = upC /\ F 71 = downC
theorem spUp_ok {β : Base} (hG : GU β) : SpGOk Try.prog β 76 spUp := by
 intro args H nl cs ls ρ w xs hr hx hh hc
 unfold spUp at hr
 split at hr
 rotate_left
 · cases hr
 rename_i l j
 split at hr
 rotate_left
 · cases hr
 rename_i v0 v1 m len q v3 rw hl
 split at hr
 rotate_left
 · cases hr
 rename_i t an q' hm
 split at hr
 rotate_left
 · cases hr
 rename_i c ht
 cases hok : okRow q q' j len an cs with
 | false => rw [hok] at hr; cases hr
 | true =>
 rw [hok] at hr
 simp only [cond_true, Option.some.injEq] at hr
 subst hr
 simp only [AVal.denL] at hx
 cases hp : (AVal.iface 125 (.ptr l (.lit 2))).den ρ with
 | none => rw [hp] at hx; cases hx
 | some pv =>
 cases hj : (AVal.int .i64 j).den ρ with
 | none => rw [hp, hj] at hx; cases hx
 | some jv =>
 rw [hp, hj] at hx
 cases hx
 obtain ⟨b0, b1, n, cap, jn, ob0, ob1, x, rfl, rfl, hjd, hxd, han, hN1, hN2, h0, h1, hs, hrow, hne, hn, hm6, hjn⟩ := at_row hh hc hl hm ht hok hp hj
 obtain ⟨g1, _⟩ := hG _ _ _ _ _ hh.g
 have hlen : (upL (decL x) jn).length = (decL x).length := (up_perm jn _ (by omega)).length_eq
 refine (up22 h0 h1 hs hrow hne hn hm6 hjn).mono fun e w' ⟨he, hst⟩ => ⟨_, he, _, _, _, _, ρ, List.mem_cons_self, Env.Le.refl ρ, rfl, hst.rel hh hm rfl hN1 (x := upC x jn) ?_ (by rw [upC, decL_encL, Int.toNat_natCast]) (by rw [hlen]; exact han) hN2, hc⟩
 simp only [IT.den, hxd, hjd, g1]
theorem spDown_ok {β : Base} (hG : GU β) : SpGOk Try.prog β 74 spDown := by
 intro args H nl cs ls ρ w xs hr hx hh hc
 unfold spDown at hr
 split at hr
 rotate_left
 · cases hr
 rename_i l j
 split at hr
 rotate_left
 · cases hr
 rename_i v0 v1 m len q v3 rw hl
 split at hr
 rotate_left
 · cases hr
 rename_i t an q' hm
 split at hr
 rotate_left
 · cases hr
 rename_i c ht
 cases hok : okRow q q' j len an cs with
 | false => rw [hok] at hr; cases hr
 | true =>
 rw [hok] at hr
 simp only [cond_true, Option.some.injEq] at hr
 subst hr
 simp only [AVal.denL] at hx
 cases hp : (AVal.iface 125 (.ptr l (.lit 2))).den ρ with
 | none => rw [hp] at hx; cases hx
 | some pv =>
 cases hj : (AVal.int .i64 j).den ρ with
 | none =>
  rw [hp, hj] at hx
  simp only [AVal.den, IT.den, Option.map_some] at hx
  cases hx
 | some jv =>
 rw [hp, hj] at hx
 simp only [AVal.den, IT.den, Option.map_some] at hx
 cases hx
 obtain ⟨b0, b1, n, cap, jn, ob0, ob1, x, rfl, rfl, hjd, hxd, han, hN1, hN2, h0, h1, hs, hrow, hne, hn, hm6, hjn⟩ := at_row hh hc hl hm ht hok hp hj
 obtain ⟨_, g1⟩ := hG _ _ _ _ _ hh.g
 have hlen : (downL (decL x) 0 jn).length = (decL x).length := (down_same _ 0 jn (decL x) (Nat.le_refl _) (by omega)).1.length_eq
 refine (down24 h0 h1 hs hrow hne hn hm6 hjn).mono fun e w' ⟨⟨b, he⟩, hst⟩ => ?_
 have h2 := (hst.rel (ct := .fn 71 c j) hh hm rfl hN1 (x := downC x jn) (by simp only [IT.den, hxd, hjd, g1]) (by rw [downC, decL_encL, Int.toNat_natCast]) (by rw [hlen]; exact han) hN2).num (if b then 1 else 0)
 have hle := Env.le_put (b := if b then 1 else 0) (hh.fresh nl (Nat.le_refl _))
 refine ⟨_, he, _, _, _, _, ρ.put nl (if b then 1 else 0), List.mem_cons_self, hle, ?_, h2, hc.mono hle⟩
 simp only [AVal.den, BT.den, IT.den, Env.put_same, Option.map_some, intCmp]
 cases b <;> rfl
end Go.Proofs.Ytighjgmgpphohaa
end
section
namespace Go.Proofs.Ytighjgmgpphohaa
open Go.Vm Go.Vm.Le
theorem at0_app {X Y : List Int} {k : Nat} (h : k < X.length) : at0 (X ++ Y) k = at0 X k := by
 unfold at0
 rw [List.getD_eq_getElem?_getD, List.getD_eq_getElem?_getD, List.getElem?_append_left h]
theorem swap_app {X Y : List Int} {i j : Nat} (hi : i < X.length) (hj : j < X.length) : swapL (X ++ Y) i j = swapL X i j ++ Y := by
 unfold swapL
 rw [at0_app hi, at0_app hj, List.set_append_left _ _ hi, List.set_append_left _ _ (by simpa using hj)]
theorem down_app : ∀ (d i n : Nat) (X Y : List Int), n - i <= d -> n <= X.length -> downL (X ++ Y) i n = downL X i n ++ Y := by
 intro d
 induction d with
 | zero =>
  intro i n X Y hd hn
  rw [down_end (by omega), down_end (by omega)]
 | succ d ih =>
  intro i n X Y hd hn
  by_cases h0 : n <= 2 * i + 1
  · rw [down_end h0, down_end h0]
  · have hk : kid (X ++ Y) i n = kid X i n := by
     unfold kid
     by_cases h2 : 2 * i + 2 < n
     · rw [at0_app (by omega), at0_app (by omega)]
     · rw [if_neg (fun e => h2 e.1), if_neg (fun e => h2 e.1)]
    have hor := kid_or X i n
    have hkl : kid X i n < X.length := by omega
    have e1 : at0 (X ++ Y) (kid X i n) = at0 X (kid X i n) := at0_app hkl
    have e2 : at0 (X ++ Y) i = at0 X i := at0_app (by omega)
    by_cases hlt : at0 X (kid X i n) < at0 X i
    · rw [down_go (by omega) hk (by rw [e1, e2]; exact hlt), down_go (l := X) (by omega) rfl hlt, swap_app (by omega) hkl, ih _ _ _ _ (by omega) (by rw [swapL_length]; exact hn)]
    · rw [down_stay hk (by rw [e1, e2]; omega), down_stay (l := X) rfl (by omega)]
def tN : IT := .sel 0 3 2 (.var 1)
def h1 : IT := .bin .add .i64 (.var 3) (.lit 1)
def us (c x : IT) : BT := .cmp .gtr (.un 5 c x) (.lit 0)
def put (c x : IT) : IT := .un 7 c (.un 1 x (.lit 1))
def bn (t : BT) (b : Bool) : Cs := [(t, b), (.not t, !b)]
def ze (c x : IT) (b : Bool) : Cs := (.cmp .eql (.un 5 c x) (.lit 0), !b) :: bn (us c x) b ++ [(.not (.not (us c x)), b)]
def fHi (b : Bool) : Cs := [(.cmp .lss (.var 3) (.var 0), b)]
def f6 (b : Bool) : Cs := [(.cmp .gtr (.var 6) (.lit 0), b)]
def n6 : IT := .bin .sub .i64 (.var 6) (.lit 1)
def a5 (c x : IT) : IT := .un 0 c (.elem (.lit 0) 1 0 x)
def sw5 (x y : IT) : IT := .un 2 (.un 2 (.var 5) (.un 1 (.elem (.lit 0) 1 0 x) (a5 (.var 5) y))) (.un 1 (.elem (.lit 0) 1 0 y) (a5 (.var 5) x))
def dn5 : IT := .fn 71 (sw5 (.lit 0) n6) n6
def x5 : IT := a5 dn5 n6
def fP : Cs := [(.cmp .geq n6 (.lit 0), true), (.cmp .lss n6 (.var 6), true), (.cmp .lss n6 (.var 7), true), (.cmp .lss (.lit 0) (.var 6), true), (.cmp .lss (.lit 0) (.var 7), true), (.cmp .leq n6 (.var 6), true), (.cmp .leq n6 (.nv 4), true), (.cmp .geq (.lit 0) (.lit 0), true), (.cmp .leq (.lit 0) n6, true), (.cmp .leq (.var 6) (.lit 1000000), true)]
def h6 : IT := .bin .add .i64 (.var 6) (.lit 1)
def j6 : IT := .bin .sub .i64 h6 (.lit 1)
def fQ : Cs := [(.cmp .geq j6 (.lit 0), true), (.cmp .lss j6 h6, true), (.cmp .leq h6 (.lit 1000000), true), (.cmp .leq (.var 6) (.lit 1000000), true)]
def psh (r : IT) (j : IT) : IT := .fn 70 (.un 3 r tN) j
def opN (v : Value) (i : Nat) : Int := selI v (i * 3 + 2)
structure S02 (v : Value) (n : Nat) (most : Int) (i h : Nat) (B K : List Int) (ρ : Env) : Prop where
 i0 : ρ.I 0 = most
 i1 : ρ.I 1 = i
 i3 : ρ.I 3 = h
 i4 : decL (ρ.I 4) = usedL K
 i10 : ρ.I 10 = n
 hv : ρ.V 0 = v
 le : i <= n
 n2 : n <= 200
 m0 : 0 <= most
 m : most <= 65535
 s : Stk most h B K
structure R02 (B : List Int) (ρ : Env) : Prop where
 i6 : ρ.I 6 = B.length
 i7 : ρ.I 7 = (decL (ρ.I 5)).length
 le : B.length <= (decL (ρ.I 5)).length
 i5 : (decL (ρ.I 5)).take B.length = B
def GL : GP := fun _ _ _ _ F => F 70 = upC /\ F 71 = downC
section
variable {v : Value} {n : Nat} {most : Int} {i h : Nat} {B K : List Int} {ρ : Env}
theorem S02.of_le (s : S02 v n most i h B K ρ) {ρ' : Env} (hle : ρ.Le ρ') : S02 v n most i h B K ρ' :=
 ⟨by rw [hle.i]; exact s.i0, by rw [hle.i]; exact s.i1, by rw [hle.i]; exact s.i3, by rw [hle.i]; exact s.i4, by rw [hle.i]; exact s.i10, by rw [hle.v]; exact s.hv, s.le, s.n2, s.m0, s.m, s.s⟩
theorem R02.of_le (r : R02 B ρ) {ρ' : Env} (hle : ρ.Le ρ') : R02 B ρ' :=
 ⟨by rw [hle.i]; exact r.i6, by rw [hle.i]; exact r.i7, by rw [hle.i]; exact r.le, by rw [hle.i]; exact r.i5⟩
theorem S02.hn (s : S02 v n most i h B K ρ) : h <= 65535 := by have := s.s.le; have := s.m; omega
theorem S02.bl (s : S02 v n most i h B K ρ) : B.length <= 65535 := by have := s.s.len; have := s.hn; omega
theorem tN_den (s : S02 v n most i h B K ρ) : tN.den ρ = some (opN v i) := by
 simp only [tN, IT.den, s.i1, s.hv, Option.map_some, Int.toNat_natCast, opN]
theorem us_den (s : S02 v n most i h B K ρ) {x : IT} {z : Int} (hx : x.den ρ = some z) : (us (.var 4) x).den ρ = some (decide (z ∈ K)) := by
 simp only [us, BT.den, IT.den, hx, univ, s.i4, used_get, intCmp]
 by_cases hz : z ∈ K <;> simp [hz]
theorem ze_ok (s : S02 v n most i h B K ρ) {x : IT} {z : Int} (hx : x.den ρ = some z) {b : Bool} (hb : decide (z ∈ K) = b) : CRel ρ (ze (.var 4) x b) := by
 have h1 := us_den s hx
 rw [hb] at h1
 have h2 : (BT.cmp .eql (.un 5 (.var 4) x) (.lit 0)).den ρ = some (!b) := by
  simp only [BT.den, IT.den, hx, univ, s.i4, used_get, intCmp]
  rw [<- hb]
  by_cases hz : z ∈ K <;> simp [hz]
 simp only [ze, bn, List.cons_append, List.nil_append, CRel_cons, CRel_nil, and_true, h1, h2, BT.den.eq_4, Option.map_some, Bool.not_not]
theorem put_den (s : S02 v n most i h B K ρ) {x : IT} {z : Int} (hx : x.den ρ = some z) (hz : z ∉ K) : (put (.var 4) x).den ρ = some (encL (usedL (K ++ [z]))) := by
 simp only [put, IT.den, hx, univ, s.i4, decL_encL, List.getD_cons_zero, List.getD_cons_succ, used_put hz]
theorem del_den (s : S02 v n most i h B K ρ) {x : IT} {z : Int} (hx : x.den ρ = some z) : (IT.un 8 (.var 4) x).den ρ = some (encL (usedL (K.erase z))) := by
 simp only [IT.den, hx, univ, s.i4, used_del]
theorem h1_den (s : S02 v n most i h B K ρ) : h1.den ρ = some ((h : Int) + 1) := by
 have := s.hn
 simp only [h1, IT.den, intBin, s.i3]
 rw [wrap_ok (by omega) (by omega)]
theorem fHi_ok (s : S02 v n most i h B K ρ) {b : Bool} (hb : decide ((h : Int) < most) = b) : CRel ρ (fHi b) := by
 simp only [fHi, CRel_cons, CRel_nil, and_true, BT.den, den_var, s.i3, s.i0, intCmp, Option.some.injEq]
 exact hb
theorem f6_ok (r : R02 B ρ) {b : Bool} (hb : decide (0 < B.length) = b) : CRel ρ (f6 b) := by
 simp only [f6, CRel_cons, CRel_nil, and_true, BT.den, den_var, den_lit, r.i6, intCmp, Option.some.injEq]
 rw [<- hb]
 exact decide_eq_decide.2 (by omega)
theorem room_ok {β : Base} {H : Heap} {nl : Nat} {w : World} (hh : HRel β ρ H nl w) {l q : Nat} {t : AT} {an c : IT} (hl : H.get l = some ⟨.arr t [.i64] 3 an (.lit 0) (some (.nv q)), true⟩) (ht : t.codeT = some c) :
 ∃ cap x, ρ.N q = some cap /\ c.den ρ = some x /\ (decL x).length <= cap := by
 obtain ⟨b1, ob1, _, _, hrel⟩ := hh.blk l _ hl
 obtain ⟨x, cap, hx, _, hN, ca, fr, _, hp, hs, _⟩ := row_rel hrel ht
 refine ⟨cap, x, hN, hx, ?_⟩
 have h2 : (rowOf [.i64] (decL x)).length <= ca.toList.length := hp.length_le
 have h3 : ca.toList.length = ca.size := Array.length_toList
 rw [rowOf_length] at h2
 omega
theorem n6_den (r : R02 B ρ) (h0 : 0 < B.length) (hb : B.length <= 65535) : n6.den ρ = some ((B.length - 1 : Nat) : Int) := by
 simp only [n6, IT.den, intBin, r.i6]
 rw [wrap_ok (by omega) (by omega)]
 congr 1; omega
theorem fP_ok (r : R02 B ρ) (h0 : 0 < B.length) (hb : B.length <= 65535) {cap : Nat} (hN : ρ.N 4 = some cap) (hc : (decL (ρ.I 5)).length <= cap) : CRel ρ fP := by
 have e := n6_den r h0 hb
 have hl := r.le
 have eN : (IT.nv 4).den ρ = some (cap : Int) := by simp only [IT.den, hN]; rfl
 simp only [fP, CRel_cons, CRel_nil, and_true, BT.den, e, eN, den_var, den_lit, r.i6, r.i7, intCmp, Option.some.injEq, decide_eq_true_eq]
 omega
theorem sw5_den (r : R02 B ρ) (h0 : 0 < B.length) (hb : B.length <= 65535) : (sw5 (.lit 0) n6).den ρ = some (encL (swapL (decL (ρ.I 5)) 0 (B.length - 1))) := by
 have e := n6_den r h0 hb
 simp only [sw5, a5, IT.den.eq_13, IT.den.eq_11, IT.den.eq_1, IT.den.eq_2, e, univ, decL_encL, Int.toNat_natCast, List.getD_cons_zero, List.getD_cons_succ, swapL]
 simp [at0]
theorem dn5_den (hG : GL.at ρ) (r : R02 B ρ) (h0 : 0 < B.length) (hb : B.length <= 65535) : dn5.den ρ = some (encL (popD B ++ (decL (ρ.I 5)).drop B.length)) := by
 have e := n6_den r h0 hb
 have e2 := sw5_den r h0 hb
 have hg : ρ.F 71 = downC := hG.2
 have hR : decL (ρ.I 5) = B ++ (decL (ρ.I 5)).drop B.length := by
  conv => lhs; rw [<- List.take_append_drop B.length (decL (ρ.I 5)), r.i5]
 have hd : downC (encL (swapL (decL (ρ.I 5)) 0 (B.length - 1))) ((B.length - 1 : Nat) : Int) = encL (popD B ++ (decL (ρ.I 5)).drop B.length) := by
  unfold downC
  rw [decL_encL, Int.toNat_natCast]
  conv => lhs; rw [hR]
  rw [swap_app h0 (by omega), down_app _ 0 _ _ _ (Nat.le_refl _) (by rw [swapL_length]; omega)]
  rfl
 simp only [dn5, IT.den.eq_12, e, e2, hg, hd]
theorem x5_den (hG : GL.at ρ) (r : R02 B ρ) (s : S02 v n most i h B K ρ) (h0 : 0 < B.length) (hb : B.length <= 65535) : x5.den ρ = some (at0 B 0) := by
 have e := n6_den r h0 hb
 have e2 := dn5_den hG r h0 hb
 obtain ⟨p1, p2, _⟩ := pop_ok s.s.heap h0
 simp only [x5, a5, IT.den.eq_13, IT.den.eq_11, IT.den.eq_1, e, e2, univ, decL_encL, Int.toNat_natCast]
 have e3 : (Int.ofNat ((0 : Int).toNat + ((B.length - 1) * 1 + 0))).toNat = B.length - 1 := by simp
 rw [e3, <- p2]
 congr 1
 have := at0_app (X := popD B) (Y := (decL (ρ.I 5)).drop B.length) (k := B.length - 1) (by omega)
 exact this
theorem j6_den (r : R02 B ρ) (hb : B.length <= 65535) : h6.den ρ = some ((B.length + 1 : Nat) : Int) /\ j6.den ρ = some (B.length : Int) := by
 have e1 : h6.den ρ = some ((B.length + 1 : Nat) : Int) := by
  simp only [h6, IT.den, intBin, r.i6]
  rw [wrap_ok (by omega) (by omega)]
  congr 1
 refine ⟨e1, ?_⟩
 simp only [j6, IT.den.eq_4, e1, den_lit, intBin]
 rw [wrap_ok (by omega) (by omega)]
 congr 1; omega
theorem fQ_ok (r : R02 B ρ) (hb : B.length <= 65535) : CRel ρ fQ := by
 obtain ⟨e1, e2⟩ := j6_den r hb
 simp only [fQ, CRel_cons, CRel_nil, and_true, BT.den, e1, e2, den_var, den_lit, r.i6, intCmp, Option.some.injEq, decide_eq_true_eq]
 omega
theorem psh_den (hG : GL.at ρ) (r : R02 B ρ) (s : S02 v n most i h B K ρ) (hb : B.length <= 65535) : (psh (.un 10 (.var 5) (.var 6)) j6).den ρ = some (encL (pushL B (opN v i))) := by
 obtain ⟨_, e2⟩ := j6_den r hb
 have hg : ρ.F 70 = upC := hG.1
 have e3 : (IT.un 3 (.un 10 (.var 5) (.var 6)) tN).den ρ = some (encL (B ++ [opN v i])) := by
  simp only [IT.den.eq_13, den_var, tN_den s, univ, decL_encL, r.i6, Int.toNat_natCast, r.i5]
 simp only [psh, IT.den.eq_12, e2, e3, hg]
 unfold upC
 rw [decL_encL, Int.toNat_natCast]; rfl
end
end Go.Proofs.Ytighjgmgpphohaa
end
