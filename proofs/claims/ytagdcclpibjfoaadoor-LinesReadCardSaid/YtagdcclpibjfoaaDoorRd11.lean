/-
  Reading scripts (11): LinesRead's walk (over the machine vmC: make of a length that is not known, a row of bytes as a text).
-/
import Derived.Test.YtagdcclpibjfoaaDoorRd10
namespace Go.Proofs.YtagdcclpibjfoaaDoor
open Go.Vm Txt
namespace Rd

def fd : AVal := .int .u16 (.var 40)
def f8 (b : Bool) : Cs := [(.cmp .eql (.bin .rem .u16 (.var 40) (.lit 8)) (.lit 0), b)]
def f3k (b : Bool) : Cs := [(.cmp .gtr (.slen (.var 5)) (.lit 3000), b)]
def fs9 (t : ST) : Cs := [(.seq t (.var 9), true)]
def nT : IT := .bin .add .i64 (.lit 4990) (.cv .i64 (.bin .rem .u16 (.bin .quo .u16 (.var 40) (.lit 8)) (.lit 20)))
def fnT : Cs := [(.cmp .geq nT (.lit 1), true), (.cmp .leq nT (.lit 1000000), true)]
def zsl : AVal := .slice 2 (.lit 0) (.var 3) (.var 3)
def HZ : Nat × HB := (2, ⟨.arr (.code [.u8] (.var 2)) [.u8] 5 (.var 3) (.lit 0) (some (.var 3)), true⟩)
def csZ : Cs := [(.cmp .geq (.var 0) (.lit 0), true), (.cmp .leq (.var 0) (.var 3), true), (.cmp .geq (.var 3) (.lit 1), true), (.cmp .leq (.var 3) (.lit 6000), true), (.cmp .leq (.slen (.var 5)) (.lit 3000), true)]
def ZT : Tpl := ⟨[(0, .str (.var 5)), (5, zsl), (26, iV 3), (27, iV 0)], 56, [HZ], 3, csZ, 4⟩
def catT : ST := .cat (.dec (.var 2)) (.var 5)
def fls (b : Bool) : Cs := [(.cmp .lss (.var 0) (.var 3), b)]
def fsl : Cs := [(.cmp .leq (.slen catT) (.lit 9223372036854775807), true)]
noncomputable def ub0 : Code := ((loopsOf (Tryd.f14.body.getD .ret) []).getD 0 (.ret, [])).1
noncomputable def uk0 : List Item := ((loopsOf (Tryd.f14.body.getD .ret) []).getD 0 (.ret, [])).2
noncomputable def RunZ (z : Bool) (c : Cs) (l : LS) : Prop := (run Tryd.prog [(127, .same)] (sp14 z) 4000 true 14 ((⟨ZT.tm, ZT.nt, ZT.H, ZT.nl, c ++ ZT.cs, ZT.dep⟩ : Tpl).st (.code ub0 :: .inLoop ub0 :: uk0))).map (·.filterMap (sumL gR [ZT])) = some [l]
noncomputable def RunN (z : Bool) (c : Cs) (l : LS) : Prop := (run Tryd.prog [(127, .same)] (sp14 z) 4000 true 14 (entry Tryd.f14 (Tryd.f14.body.getD .ret) [.str (.var 5), fd] .leaf 0 c)).map (·.filterMap (sumL gR [ZT])) = some [l]
def cA : Cs := f3k false ++ f8 false ++ fs9 (.var 5)
def cB : Cs := f3k false ++ f8 true ++ fnT
def cN : Cs := fls false ++ fs9 catT ++ fsl
def sZ0 : Sub := ⟨[(3, nT), (0, .lit 0), (2, .un 19 nT (.lit 0))], [], [], [], [(2, 0)]⟩
def sZ1 : Sub := ⟨[(3, .var 3), (0, upI), (2, .un 2 (.var 2) (.un 1 (.elem (.lit 0) 1 0 (.var 0)) (.lit 10)))], [], [], [], [(2, 2)]⟩
theorem uA (z : Bool) : RunN z cA (.ret (.bool (.lit true)) cA) := by cases z <;> (unfold RunN; kernel_rfl)
theorem uB (z : Bool) : RunN z cB (.next 0 (.code (.loop ub0) :: uk0) cB sZ0) := by cases z <;> (unfold RunN; kernel_rfl)
theorem uX (z : Bool) : RunZ z (fls true) (.next 0 (.inLoop ub0 :: uk0) (fls true ++ csZ) sZ1) := by cases z <;> (unfold RunZ; kernel_rfl)
theorem uN (z : Bool) : RunZ z cN (.ret (.bool (.lit true)) (cN ++ csZ)) := by cases z <;> (unfold RunZ; kernel_rfl)
theorem uBig : (run Tryd.prog [(127, .same)] (spL [(62, spTrue)]) 4000 false 14 (entry Tryd.f14 (Tryd.f14.body.getD .ret) [.str (.var 5), fd] .leaf 0 (f3k true))).map (·.all (leafB (.lit true))) = some true := by kernel_rfl
-- PLAINLY
def zc (n i : Nat) : List Int := List.replicate i 10 ++ List.replicate (n - i) 0
theorem zc_set {n i : Nat} (h : i < n) : (zc n i).set i 10 = zc n (i + 1) := by
  unfold zc
  rw [List.set_append_right i 10 (by simp), List.length_replicate, Nat.sub_self, show n - i = (n - (i + 1)) + 1 by omega, List.replicate_succ, List.set_cons_zero, List.replicate_succ']
  simp
theorem zc_dec (n : Nat) : decS (encL (zc n n)) = Txt.bytes (List.replicate n 10) := by
  unfold decS zc
  rw [decL_encL]
  simp [Txt.bytes]
/-- How many empty lines come ahead. -/
def lead (d : Nat) : Nat := 4990 + d / 8 % 20
structure Jz (s t : List UInt8) (d n i : Nat) (ρ : Env) : Prop where
  g : GP.at (GZ s t d) ρ
  i0 : ρ.I 0 = (i : Int)
  n0 : ρ.I 3 = (n : Int)
  c : ρ.I 2 = encL (zc n i)
  le : i ≤ n
theorem Jz.of_le {s t : List UInt8} {d n i : Nat} {ρ ρ' : Env} (h : Jz s t d n i ρ) (g : ρ.Le ρ') : Jz s t d n i ρ' := ⟨GP.mono g h.g, by rw [g.i]; exact h.i0, by rw [g.i]; exact h.n0, by rw [g.i]; exact h.c, h.le⟩
section
variable {s t : List UInt8} {d n i : Nat} {ρ : Env}
theorem csZ_ok (h : Jz s t d n i ρ) (hs : s.length ≤ 3000) (h1 : 1 ≤ n) (hn : n ≤ 6000) : CRel ρ csZ := by
  have e0 : (IT.var 0).den ρ = some (i : Int) := congrArg some h.i0
  have e3 : (IT.var 3).den ρ = some (n : Int) := congrArg some h.n0
  have e5 : (ST.var 5).den ρ = Txt.bytes s := h.g.1
  have hle := h.le
  refine CRel_cons.2 ⟨?_, CRel_cons.2 ⟨?_, CRel_cons.2 ⟨?_, CRel_cons.2 ⟨?_, CRel_cons.2 ⟨?_, CRel_nil.2 trivial⟩⟩⟩⟩⟩
  · simp only [BT.den, e0, litI, intCmp, Option.some.injEq, decide_eq_true_eq]; omega
  · simp only [BT.den, e0, e3, intCmp, Option.some.injEq, decide_eq_true_eq]; omega
  · simp only [BT.den, e3, litI, intCmp, Option.some.injEq, decide_eq_true_eq]; omega
  · simp only [BT.den, e3, litI, intCmp, Option.some.injEq, decide_eq_true_eq]; omega
  · simp only [BT.den, IT.den, e5, bytes_size, intCmp, Option.some.injEq, decide_eq_true_eq]; omega
theorem fls_ok (h : Jz s t d n i ρ) {b : Bool} (hb : decide (i < n) = b) : CRel ρ (fls b) := by
  have e0 : (IT.var 0).den ρ = some (i : Int) := congrArg some h.i0
  have e3 : (IT.var 3).den ρ = some (n : Int) := congrArg some h.n0
  refine CRel_cons.2 ⟨?_, CRel_nil.2 trivial⟩
  simp only [BT.den, e0, e3, intCmp, Option.some.injEq]
  rw [← hb, decide_eq_decide]; omega
theorem catT_den (h : Jz s t d n n ρ) : catT.den ρ = Txt.bytes (List.replicate n 10 ++ s) := by
  show decS (ρ.I 2) ++ ρ.S 5 = _
  rw [h.c, zc_dec, h.g.1, bytes_app]
end
section
variable {w0 : World} {s t : List UInt8} {d n : Nat} (hT : TabW w0) (hM : MaxW w0) (hE : ErrW w0) (hs : s.length ≤ 3000) (h1 : 1 ≤ n) (hn : n ≤ 6000) (ht : t = List.replicate n 10 ++ s)
include hT hM hE hs h1 hn ht
theorem loopZ {z : Bool} (hz : (readL t).1.isEmpty = z) : ∀ ρ, (∃ i, Jz s t d n i ρ) → ∀ todo a w, todo = .inLoop ub0 :: uk0 ∨ todo = .code (.loop ub0) :: uk0 → SRel (βZ w0 s t d) ρ (ZT.st todo) a w → Goes Tryd.prog 14 (fun x w' => x = .bool true ∧ Framed w0 w') todo a w := by
  have htl : t.length ≤ 10000 := by rw [ht, List.length_append, List.length_replicate]; omega
  refine loop_goesS (n := 4000) (g := gR) (pl := true) (Ts := [ZT]) (Q := fun x => x = .bool true) (β := βZ w0 s t d) noCount ext1_ok (sp14_ok hT hM hE htl hz) follows rfl (fun ρ => ∃ i, Jz s t d n i ρ) (fun ρ => ((n : Int) - ρ.I 0).toNat) (fun ρ hJ hH hcs hG ih => ?_)
  obtain ⟨i, h⟩ := hJ
  have hle := h.le
  by_cases hi : i < n
  · refine ⟨_, _, CRel_app.2 ⟨fls_ok h (b := true) (decide_eq_true hi), hcs⟩, uX z, one (nextS rfl fun ρ' hle' hG' => ?_)⟩
    have h' := h.of_le hle'
    have j : Jz s t d n (i + 1) (sZ1.app ρ') := by
      refine ⟨⟨h'.g.1, h'.g.2.1, h'.g.2.2.1, h'.g.2.2.2.1, h'.g.2.2.2.2.1, h'.g.2.2.2.2.2⟩, ?_, h'.n0, ?_, by omega⟩
      · show IntKind.i64.wrap (ρ'.I 0 + 1) = _
        rw [h'.i0, wrapI (by omega) (by omega)]; simp
      · have eE : (IT.elem (.lit 0) 1 0 (.var 0)).den ρ' = some (i : Int) := by
          simp only [IT.den, h'.i0]; simp
        have e1 := unD (k := 1) eE (litI ρ' 10)
        have e2 : (IT.un 2 (.var 2) (.un 1 (.elem (.lit 0) 1 0 (.var 0)) (.lit 10))).den ρ' = some (encL (zc n (i + 1))) := by
          rw [unD (k := 2) (t := .var 2) (congrArg some h'.c) e1]
          show some (encL ((decL (encL (zc n i))).set ((decL (encL [(i : Int), 10])).getD 0 0).toNat ((decL (encL [(i : Int), 10])).getD 1 0))) = _
          rw [decL_encL, decL_encL]
          show some (encL ((zc n i).set ((i : Int)).toNat 10)) = _
          rw [Int.toNat_natCast, zc_set hi]
        show ((IT.un 2 (.var 2) (.un 1 (.elem (.lit 0) 1 0 (.var 0)) (.lit 10))).den ρ').getD 0 = _
        rw [e2]; rfl
    refine ⟨j.g, csZ_ok j hs h1 hn, fun a w r => ih _ ?_ ⟨i + 1, j⟩ _ a w (.inl rfl) r⟩
    show ((n : Int) - (sZ1.app ρ').I 0).toNat < ((n : Int) - ρ.I 0).toNat
    rw [j.i0, h.i0]; omega
  · obtain rfl : i = n := by omega
    have hc := catT_den h
    refine ⟨_, _, CRel_app.2 ⟨CRel_app.2 ⟨CRel_app.2 ⟨fls_ok h (b := false) (decide_eq_false hi), CRel_cons.2 ⟨?_, CRel_nil.2 trivial⟩⟩, CRel_cons.2 ⟨?_, CRel_nil.2 trivial⟩⟩, hcs⟩, uN z, one (retS (z := .bool true) (fun ρ' _ => rfl) rfl)⟩
    · have e9 : (ST.var 9).den ρ = Txt.bytes t := h.g.2.1
      rw [seqD, hc, e9, ht]; simp
    · simp only [BT.den, IT.den, hc, bytes_size, intCmp, Option.some.injEq, decide_eq_true_eq, List.length_append, List.length_replicate]; omega
end
theorem binD {ρ : Env} {op : BinOp} {k : IntKind} {a b : IT} {x y : Int} (h : a.den ρ = some x) (g : b.den ρ = some y) : (IT.bin op k a b).den ρ = intBin op k x y := by simp only [IT.den, h, g]
theorem cvD {ρ : Env} {k : IntKind} {a : IT} {x : Int} (h : a.den ρ = some x) : (IT.cv k a).den ρ = some (k.wrap x) := by simp only [IT.den, h, Option.map_some]
theorem remD {ρ : Env} {a : IT} {x c : Nat} (h : a.den ρ = some (x : Int)) (hc : c ≠ 0) : (IT.bin .rem .u16 a (.lit c)).den ρ = some ((x % c : Nat) : Int) := by
  rw [binD h (litI ρ c)]
  show (if (c : Int) = 0 then none else some ((x : Int).tmod c)) = _
  rw [if_neg (by omega)]; rfl
theorem quoD {ρ : Env} {a : IT} {x c : Nat} (h : a.den ρ = some (x : Int)) (hc : c ≠ 0) (hx : x < 65536) : (IT.bin .quo .u16 a (.lit c)).den ρ = some ((x / c : Nat) : Int) := by
  have hq := Nat.div_le_self x c
  rw [binD h (litI ρ c)]
  show (if (c : Int) = 0 then none else some (IntKind.u16.wrap ((x : Int).tdiv c))) = _
  rw [if_neg (by omega)]
  show some (IntKind.u16.wrap ((x / c : Nat) : Int)) = _
  generalize x / c = q at hq ⊢
  rw [wrap_in .u16 _ (by simp only [lo]; omega) (by simp only [hi]; omega)]
theorem nT_den {ρ : Env} {d : Nat} (h : ρ.I 40 = (d : Int)) (hd : d < 65536) : nT.den ρ = some ((lead d : Nat) : Int) := by
  have e40 : (IT.var 40).den ρ = some (d : Int) := congrArg some h
  have r := remD (c := 20) (quoD (c := 8) e40 (by decide) hd) (by decide)
  have c := cvD (k := .i64) r
  have hm := Nat.mod_lt (d / 8) (show 20 > 0 by decide)
  have := binD (op := .add) (k := .i64) (litI ρ 4990) c
  refine Eq.trans this ?_
  show some (IntKind.i64.wrap (4990 + IntKind.i64.wrap ((d / 8 % 20 : Nat) : Int))) = _
  rw [wrapI (x := ((d / 8 % 20 : Nat) : Int)) (by omega) (by omega), wrapI (by omega) (by omega)]
  unfold lead
  simp
noncomputable def ρZ (s t : List UInt8) (d : Nat) : Env := ⟨fun i => if i = 40 then d else if i = 20 then ((readL t).1.length : Int) else (readL t).2, fun _ => false, fun i => if i = 9 then Txt.bytes t else Txt.bytes s, fun _ => rowV (evs (readL t).1), fun _ => none, F0⟩
theorem f8_ok {ρ : Env} {d : Nat} (h : ρ.I 40 = (d : Int)) {b : Bool} (hb : decide (d % 8 = 0) = b) : CRel ρ (f8 b) := by
  have e40 : (IT.var 40).den ρ = some (d : Int) := congrArg some h
  have r := remD (c := 8) e40 (by decide)
  refine CRel_cons.2 ⟨?_, CRel_nil.2 trivial⟩
  show (BT.cmp .eql (.bin .rem .u16 (.var 40) (.lit ((8 : Nat) : Int))) (.lit 0)).den ρ = some b
  simp only [BT.den, r, litI, intCmp, Option.some.injEq]
  rw [← hb, Bool.eq_iff_iff, beq_iff_eq, decide_eq_true_eq]; omega
theorem f3k_ok {ρ : Env} {s : List UInt8} (h : ρ.S 5 = Txt.bytes s) {b : Bool} (hb : decide (3000 < s.length) = b) : CRel ρ (f3k b) := by
  have e5 : (ST.var 5).den ρ = Txt.bytes s := h
  refine CRel_cons.2 ⟨?_, CRel_nil.2 trivial⟩
  simp only [BT.den, IT.den, e5, bytes_size, intCmp, Option.some.injEq]
  rw [← hb, decide_eq_decide]; omega
/-- THE LAW's WALK. -/
theorem read_walk (w : World) (hT : TabW w) (hM : MaxW w) (hE : ErrW w) (x : ByteArray) (d : Nat) (hd : d < 65536) : Calls Tryd.prog 14 #[.string x, .int .u16 (d : Int)] w (fun e w' => e = .returned (.bool true) ∧ Framed w w') := by
  obtain ⟨s, hs⟩ : ∃ s, s = x.data.toList := ⟨_, rfl⟩
  have hx : x = Txt.bytes s := by rw [hs]; exact (bytes_list x).symm
  subst hx
  have hG : ∀ t, GP.at (GZ s t d) (ρZ s t d) := fun t => ⟨rfl, rfl, rfl, rfl, rfl, rfl⟩
  have hxs : ∀ t, AVal.denL (ρZ s t d) [.str (.var 5), fd] = some [.string (Txt.bytes s), .int .u16 (d : Int)] := fun t => rfl
  rcases Nat.lt_or_ge 3000 s.length with hbig | hsm
  · have spT : CallOk Tryd.prog (.plain w) (spL [(62, spTrue)]) := by
      refine spL_ok fun p hp => ?_
      rw [List.mem_singleton.1 hp]
      intro args H nl cs ls ρ' w' xs hr hx hh hc
      change spTrue args H nl cs = some ls at hr
      unfold spTrue at hr
      split at hr
      · cases hr; cases hx
        exact spV_ok (Ln.first62 w' (TabW.of (β := .plain w) hT rfl hh) (ErrW.of (β := .plain w) hE rfl hh)) rfl hh hc
      · cases hr
    exact calls_true (β := .plain w) (ρ := ρZ s [] d) ext1_ok spT rfl Tryd.func14 rfl uBig (hxs []) (HRel.start w _ fun _ => rfl) (f3k_ok (s := s) rfl (b := true) (decide_eq_true hbig))
  · have fin : ∀ {e : Ending} {w' : World}, (∃ v, e = .returned v ∧ v = .bool true ∧ Framed w w') → e = .returned (.bool true) ∧ Framed w w' := fun ⟨v, he, hv, hf⟩ => ⟨by rw [he, hv], hf⟩
    have f3 : ∀ t, CRel (ρZ s t d) (f3k false) := fun t => f3k_ok (s := s) rfl (b := false) (decide_eq_false (by omega))
    by_cases h8 : d % 8 = 0
    · have hn := Nat.mod_lt (d / 8) (show 20 > 0 by decide)
      obtain ⟨n, hnd⟩ : ∃ n, n = lead d := ⟨_, rfl⟩
      have hn1 : 1 ≤ n ∧ n ≤ 6000 := by rw [hnd]; unfold lead; omega
      obtain ⟨t, ht⟩ : ∃ t, t = List.replicate n (10 : UInt8) ++ s := ⟨_, rfl⟩
      have htl : t.length ≤ 10000 := by rw [ht, List.length_append, List.length_replicate]; omega
      obtain ⟨z, hz⟩ : ∃ z, (readL t).1.isEmpty = z := ⟨_, rfl⟩
      have e0 : nT.den (ρZ s t d) = some (n : Int) := by rw [hnd]; exact nT_den rfl hd
      refine (calls_sums (β := βZ w s t d) (Q := fun x => x = .bool true) noCount ext1_ok (sp14_ok hT hM hE htl hz) follows rfl Tryd.func14 rfl (uB z) (hxs t) (HRel.startG w _ (fun _ => rfl) (hG t)) (CRel_app.2 ⟨CRel_app.2 ⟨f3 t, f8_ok (ρ := ρZ s t d) rfl (b := true) (decide_eq_true h8)⟩, CRel_cons.2 ⟨?_, CRel_cons.2 ⟨?_, CRel_nil.2 trivial⟩⟩⟩) (one (nextS (T := ZT) rfl fun ρ' hle hG' => ?_))).mono fun _ _ => fin
      · simp only [BT.den, e0, litI, intCmp, Option.some.injEq, decide_eq_true_eq]; omega
      · simp only [BT.den, e0, litI, intCmp, Option.some.injEq, decide_eq_true_eq]; omega
      · have e0' := IT.den_mono hle e0
        have j : Jz s t d n 0 (sZ0.app ρ') := by
          refine ⟨⟨hG'.1, hG'.2.1, hG'.2.2.1, hG'.2.2.2.1, hG'.2.2.2.2.1, hG'.2.2.2.2.2⟩, rfl, ?_, ?_, Nat.zero_le _⟩
          · show (nT.den ρ').getD 0 = _
            rw [e0']; rfl
          · show ((IT.un 19 nT (.lit 0)).den ρ').getD 0 = _
            rw [unD e0' (litI ρ' 0)]
            show encL (List.replicate ((n : Int)).toNat 0) = _
            rw [Int.toNat_natCast]; rfl
        exact ⟨j.g, csZ_ok j hsm hn1.1 hn1.2, fun a w' r => loopZ hT hM hE hsm hn1.1 hn1.2 ht hz _ ⟨0, j⟩ _ a w' (.inr rfl) r⟩
    · obtain ⟨z, hz⟩ : ∃ z, (readL s).1.isEmpty = z := ⟨_, rfl⟩
      refine (calls_sums (β := βZ w s s d) (Q := fun x => x = .bool true) noCount ext1_ok (sp14_ok hT hM hE (by omega) hz) follows rfl Tryd.func14 rfl (uA z) (hxs s) (HRel.startG w _ (fun _ => rfl) (hG s)) (CRel_app.2 ⟨CRel_app.2 ⟨f3 s, f8_ok (ρ := ρZ s s d) rfl (b := false) (decide_eq_false h8)⟩, CRel_cons.2 ⟨?_, CRel_nil.2 trivial⟩⟩) (one (retS (z := .bool true) (fun ρ' _ => rfl) rfl))).mono fun _ _ => fin
      have a : (ST.var 5).den (ρZ s s d) = Txt.bytes s := rfl
      have b : (ST.var 9).den (ρZ s s d) = Txt.bytes s := rfl
      rw [seqD, a, b]; simp
end Rd
end Go.Proofs.YtagdcclpibjfoaaDoor
