/- Pace (1): what is known of slices.Clone of a row told as a number, as the machine takes it. -/
import Derived.Test.YtighjgmgpphohaaVm27
import Derived.Test.YtighjgmgpphohaaVm24
import Derived.Lib.Walk
import Derived.Lib.SliceRun
import Derived.Laws.AppendOwn
import Derived.WalkKit
import Derived.Deep.LoopGhost
section
namespace Go.Vm
def spClone (ks : List IntKind) (el : TypeId) : SpG := fun args H nl cs => match args with
 | [.sliceNil] => some [.ret .sliceNil H nl cs]
 | [.slice l off n _] => match H.get l with
  | some ⟨.arr t ks' _ n' o' _, _⟩ => match t.codeT with
   | some c => cond (decide (ks = ks') && IT.beq n n' && IT.beq off o' && sureC cs (.cmp .geq n (.lit 1)) && sureC cs (.cmp .leq n (.lit 1000000)))
    (some [.ret (.slice (nl + 1) (.lit 0) n (.nv nl)) (H.set (nl + 1) ⟨.arr (.code ks c) ks el n (.lit 0) (some (.nv nl)), true⟩) (nl + 2) cs]) none
   | none => none
  | _ => none
 | _ => none
end Go.Vm
end
section
namespace Go.Proofs.Ytighjgmgpphohaa
open Go.Vm Go.RowKit Go.Lib
namespace Pc
theorem noExt : ExtOk Try.prog [] := fun g k h => by cases h
theorem framed_of_below {w w' : World} (h : Below w.heap.size w w') : Framed w w' := by
 obtain ⟨h1, h2, h3, h4, h5⟩ := h
 exact ⟨h4, h5, h2, h1, h3⟩
theorem rowOut_owns {w w' : World} {v' : Value} {e : TypeId} {ks : List IntKind} {L : List Int} {m : Nat} (hl : L.length = m * ks.length) (h : w'.ownsRow w.heap.size e ks.length v' m (rowOf ks L)) (hnn : v' ≠ .slice none 0 0) (hf : Framed w w') : RowOut w w' v' e ks L m := by
 obtain ⟨_, h⟩ := h
 rcases h with ⟨h1, _⟩ | ⟨g, cap, cur, rfl, hg, hc, _, _, hs, ht⟩
 · exact absurd h1 hnn
 · refine ⟨hf, hl, g, cap, cur, (0, 0), rfl, hg, hc, ?_, hs, .inl (Nat.le_refl _)⟩
   rw [<- ht]; exact List.take_prefix _ _
theorem one_cell {ks : List IntKind} {L : List Int} : ∀ u ∈ rowOf ks L, u.oneCell' = true := by
 intro u hu
 obtain ⟨i, hi⟩ := List.getElem?_of_mem hu
 rw [rowOf_get] at hi
 obtain ⟨z, _, rfl⟩ := Option.map_eq_some_iff.1 hi
 rfl
theorem infoOf {P : Program} {t : TypeId} {z : Value} {s b : Nat} (h : (P.info? t).map (fun i => (i.zero, i.size, i.bytes)) = some (some z, s, b)) : ∃ i, P.info? t = some i /\ i.zero = some z /\ i.size = s /\ i.bytes = b := by
 obtain ⟨i, hi, he⟩ := Option.map_eq_some_iff.1 h
 simp only [Prod.mk.injEq] at he
 exact ⟨i, hi, he.1, he.2.1, he.2.2⟩
theorem info32 : (Try.prog.info? 32).map (fun i => (i.zero, i.size, i.bytes)) = some (some (.int .u64 0), 1, 8) := by kernel_rfl
set_option maxHeartbeats 2000000 in
set_option maxRecDepth 100000 in
theorem clone43 (w : World) (b off n c : Nat) (L : List Int) (hl : L.length = n * 1) (hn : n <= 1000000) (hc : ∀ (j : Nat) u, (rowOf [.u64] L)[j]? = some u -> w.cell? ⟨b, off + j, none⟩ = some u) :
 Calls Try.prog 43 #[.slice (some ⟨b, off, none⟩) n c] w fun e w' => ∃ v', e = .returned v' /\ w'.ownsRow w.heap.size 32 1 v' n (rowOf [.u64] L) /\ v' ≠ .slice none 0 0 /\ Below w.heap.size w w' := by
 obtain ⟨i0, hi, hz0, hz1, hz2⟩ := infoOf info32
 have q22 : ∀ (w : World) (a : Option Addr) (n c n' c' : Nat), (binOp .eql 22 (.slice a n c) (.slice none n' c')).run Try.prog w = .ok (.bool a.isNone) w := fun w a n c n' c' => Lib.run_eql_slice_nil w _ _ a n c n' c' Try.underlying22
 have hlen : (rowOf [.u64] L).length = n := by rw [rowOf_length, hl]; omega
 have h1 := one_cell (ks := [.u64]) (L := L)
 have A : Aside (∀ (j : Nat) u, (rowOf [.u64] L)[j]? = some u -> w.cell? ⟨b, off + j, none⟩ = some u) := hc
 clear hc hl
 generalize rowOf [.u64] L = xs at A h1 hlen ⊢
 go_enter Try.func43, Try.ntmps43
 go_wp2_with (at_builtin; refine wpList_append_own _ rfl _ _ 22 rfl w.heap.size 32 i0 (.int .u64 0) 1 8 Try.underlying22 hi hz0 hz1 hz2 rfl (by decide) _ _ _ rfl (World.ownsRow_made w #[] 0 (Nat.le_refl _) (Nat.zero_le _) rfl) ⟨b, off, none⟩ n c xs rfl ?qc1 ?qc2 ?qc3 ?qc4 ?qc5 ?qc6 ?_)
 case qc1 => rw [hlen]; omega
 case qc2 =>
  intro j u hj
  rw [Addr.add_lit]
  exact Lib.cell?_alloc_some _ (A.out j u hj)
 case qc3 => exact h1
 case qc4 => unfold maxLen; omega
 case qc5 => omega
 case qc6 => simp
 intro v' w1 hown hgrow hnil
 go_wp2
 go_ret
 refine ⟨v', rfl, by simpa using hown, ?_, ?_⟩
 · exact hnil
 · exact ((Below.refl _ w).alloc (Nat.le_refl _) _).grown hgrow (by simp) (by intro k hk; simp [Value.ownBlock] at hk; omega)
theorem info35 : (Try.prog.info? 35).map (fun i => (i.zero, i.size, i.bytes)) = some (some (.agg #[.int .u64 0, .int .i64 0]), 2, 16) := by kernel_rfl
set_option maxHeartbeats 2000000 in
set_option maxRecDepth 100000 in
theorem clone40 (w : World) (b off n c : Nat) (L : List Int) (hl : L.length = n * 2) (hn : n <= 1000000) (hc : ∀ (j : Nat) u, (rowOf [.u64, .i64] L)[j]? = some u -> w.cell? ⟨b, off + j, none⟩ = some u) :
 Calls Try.prog 40 #[.slice (some ⟨b, off, none⟩) n c] w fun e w' => ∃ v', e = .returned v' /\ w'.ownsRow w.heap.size 35 2 v' n (rowOf [.u64, .i64] L) /\ v' ≠ .slice none 0 0 /\ Below w.heap.size w w' := by
 obtain ⟨i0, hi, hz0, hz1, hz2⟩ := infoOf info35
 have q22 : ∀ (w : World) (a : Option Addr) (n c n' c' : Nat), (binOp .eql 29 (.slice a n c) (.slice none n' c')).run Try.prog w = .ok (.bool a.isNone) w := fun w a n c n' c' => Lib.run_eql_slice_nil w _ _ a n c n' c' Try.underlying29
 have hlen : (rowOf [.u64, .i64] L).length = n * 2 := by rw [rowOf_length, hl]
 have h1 := one_cell (ks := [.u64, .i64]) (L := L)
 have A : Aside (∀ (j : Nat) u, (rowOf [.u64, .i64] L)[j]? = some u -> w.cell? ⟨b, off + j, none⟩ = some u) := hc
 clear hc hl
 generalize rowOf [.u64, .i64] L = xs at A h1 hlen ⊢
 go_enter Try.func40, Try.ntmps40
 go_wp2_with (at_builtin; refine wpList_append_own _ rfl _ _ 29 rfl w.heap.size 35 i0 (.agg #[.int .u64 0, .int .i64 0]) 2 16 Try.underlying29 hi hz0 hz1 hz2 rfl (by decide) _ _ _ rfl (World.ownsRow_made w #[] 0 (Nat.le_refl _) (Nat.zero_le _) rfl) ⟨b, off, none⟩ n c xs rfl ?qc1 ?qc2 ?qc3 ?qc4 ?qc5 ?qc6 ?_)
 case qc1 => rw [hlen]
 case qc2 =>
  intro j u hj
  rw [Addr.add_lit]
  exact Lib.cell?_alloc_some _ (A.out j u hj)
 case qc3 => exact h1
 case qc4 => unfold maxLen; omega
 case qc5 => omega
 case qc6 => simp
 intro v' w1 hown hgrow hnil
 go_wp2
 go_ret
 refine ⟨v', rfl, by simpa using hown, ?_, ?_⟩
 · exact hnil
 · exact ((Below.refl _ w).alloc (Nat.le_refl _) _).grown hgrow (by simp) (by intro k hk; simp [Value.ownBlock] at hk; omega)
theorem clone43n (w : World) : Calls Try.prog 43 #[.slice none 0 0] w fun e w' => e = .returned (.slice none 0 0) /\ Framed w w' := by
 have q22 : ∀ (w : World) (a : Option Addr) (n c n' c' : Nat), (binOp .eql 22 (.slice a n c) (.slice none n' c')).run Try.prog w = .ok (.bool a.isNone) w := fun w a n c n' c' => Lib.run_eql_slice_nil w _ _ a n c n' c' Try.underlying22
 go_enter Try.func43, Try.ntmps43
 go_wp2
 go_ret
 exact ⟨rfl, Framed.refl w⟩
theorem clone40n (w : World) : Calls Try.prog 40 #[.slice none 0 0] w fun e w' => e = .returned (.slice none 0 0) /\ Framed w w' := by
 have q22 : ∀ (w : World) (a : Option Addr) (n c n' c' : Nat), (binOp .eql 29 (.slice a n c) (.slice none n' c')).run Try.prog w = .ok (.bool a.isNone) w := fun w a n c n' c' => Lib.run_eql_slice_nil w _ _ a n c n' c' Try.underlying29
 go_enter Try.func40, Try.ntmps40
 go_wp2
 go_ret
 exact ⟨rfl, Framed.refl w⟩
theorem row_inY {β : Base} {ρ : Env} {H : Heap} {nl : Nat} {w w' : World} {x : Value} {nT c : IT} {e : TypeId} {ks : List IntKind} {L : List Int} {m : Nat} {y : Int} (h : HRel β ρ H nl w) (r : RowOut w w' x e ks L m) (hn : nT.den ρ = some (m : Int)) (hc : c.den ρ = some y) (hy : decL y = L) :
 ∃ ρ', ρ.Le ρ' /\ (AVal.slice (nl + 1) (.lit 0) nT (.nv nl)).den ρ' = some x /\ HRel β ρ' (H.set (nl + 1) ⟨.arr (.code ks c) ks e nT (.lit 0) (some (.nv nl)), true⟩) (nl + 2) w' := by
 obtain ⟨b, cap, c0, f, rfl, hb, hob, hp, hcs, hf⟩ := r.row
 have h1 := h.num cap
 have hle1 : ρ.Le (ρ.put nl cap) := Env.le_put (h.fresh nl (Nat.le_refl _))
 have hle2 : (ρ.put nl cap).Le ((ρ.put nl cap).put (nl + 1) b) := Env.le_put (h1.fresh _ (Nat.le_refl _))
 have hcapd : (IT.nv nl).den ((ρ.put nl cap).put (nl + 1) b) = some (cap : Int) := by
  have : ((ρ.put nl cap).put (nl + 1) b).N nl = some cap := hle2.n _ _ (Env.put_same ..)
  simp only [IT.den, this]; rfl
 have hrel : (ABlk.arr (.code ks c) ks e nT (.lit 0) (some (.nv nl))).rel ((ρ.put nl cap).put (nl + 1) b) true (.cells c0 e f) := by
  refine ⟨rowOf ks L, c0, f, e, m, 0, rfl, fun _ => rfl, ?_, rfl, ⟨Nat.zero_le _, by rw [List.drop_zero]; exact hp⟩, IT.den_mono (hle1.trans hle2) hn, rowOf_typed r.len, ⟨cap, hcapd, by rw [Nat.sub_zero]; exact hcs⟩, fun _ => hf⟩
  simp only [AT.den, IT.den_mono (hle1.trans hle2) hc, Option.map_some, hy]
 refine ⟨_, hle1.trans hle2, ?_, h1.adopt r.fr hb hob hrel⟩
 have e1 : natOf (nT.den ((ρ.put nl cap).put (nl + 1) b)) = some m := by rw [IT.den_mono (hle1.trans hle2) hn]; rfl
 have e2 : natOf ((IT.nv nl).den ((ρ.put nl cap).put (nl + 1) b)) = some cap := by rw [hcapd]; rfl
 have e0 : natOf ((IT.lit 0).den ((ρ.put nl cap).put (nl + 1) b)) = some 0 := rfl
 have e3 : ((ρ.put nl cap).put (nl + 1) b).N (nl + 1) = some b := Env.put_same ..
 simp only [AVal.den, e0, e1, e2, e3]
theorem sureC_ok {ρ : Env} {cs : Cs} {op : BinOp} {n : IT} {z : Int} {x : Int} (h : sureC cs (.cmp op n (.lit z)) = true) (hs : sure (.cmp op n (.lit z)) = false) (hc : CRel ρ cs) (hn : n.den ρ = some x) : intCmp op x z = some true := by
 simp only [sureC, hs, Bool.false_or] at h
 split at h
 · rename_i b hb
   subst h
   have := lookB_ok hb hc
   simpa only [BT.den, hn, IT.den] using this
 · cases h
theorem whole_row {β : Base} {ρ : Env} {H : Heap} {nl : Nat} {w : World} {l : Nat} {n cp : IT} {t : AT} {ks : List IntKind} {el : TypeId} {off : IT} {cp' : Option IT} {rw : Bool} {c : IT} {xv : Value} (hh : HRel β ρ H nl w) (hg : H.get l = some ⟨.arr t ks el n off cp', rw⟩) (hcT : t.codeT = some c) (hx : (AVal.slice l off n cp).den ρ = some xv) :
 ∃ b o m cap, ∃ y : Int, xv = .slice (some ⟨b, o, none⟩) m cap /\ n.den ρ = some (m : Int) /\ c.den ρ = some y /\ (decL y).length = m * ks.length /\ (∃ c0 fr el', w.heap[b]? = some (.cells c0 el' fr) /\ o <= c0.size /\ rowOf ks (decL y) <+: c0.toList.drop o) /\ ∀ (j : Nat) u, (rowOf ks (decL y))[j]? = some u -> w.cell? ⟨b, o + j, none⟩ = some u := by
 obtain ⟨b, o, m, cap, rfl, hN, ho, hn, _⟩ := den_slice hx
 obtain ⟨b', ob, hb', hob, xs, c0, fr, el', m', st, rfl, _, hd, hst, ⟨h4, h5⟩, hn', hty, _, _⟩ := hh.blk l _ hg
 rw [hN] at hb'; cases hb'
 have e1 : m' = m := by have := hn'.symm.trans hn; exact Int.ofNat.inj (Option.some.inj this)
 have e2 : st = o := by have := hst.symm.trans ho; exact Int.ofNat.inj (Option.some.inj this)
 subst e1; subst e2
 obtain ⟨y, hy, hyx⟩ := codeT_ok hcT hd
 have hxs : rowOf ks (decL y) = xs := by rw [hyx]; exact hty.rowOf.symm
 refine ⟨b, st, m', cap, y, rfl, hn, hy, by rw [hyx, List.length_map]; exact hty.1, ⟨c0, fr, el', hob, h4, by rw [hxs]; exact h5⟩, fun j u hj => ?_⟩
 rw [hxs] at hj
 rw [cell_of w hob]
 obtain ⟨q, hq⟩ := h5
 have : (c0.toList.drop st)[j]? = some u := by
  rw [<- hq, List.getElem?_append_left (List.getElem?_eq_some_iff.1 hj).1]; exact hj
 rw [List.getElem?_drop] at this
 simpa using this
theorem spClone_ok {β : Base} {g : FuncId} {ks : List IntKind} {el : TypeId} (h0 : ∀ w, Calls Try.prog g #[.slice none 0 0] w fun e w' => e = .returned (.slice none 0 0) /\ Framed w w')
 (h : ∀ (w : World) (b off n c : Nat) (L : List Int), L.length = n * ks.length -> n <= 1000000 -> (∀ (j : Nat) u, (rowOf ks L)[j]? = some u -> w.cell? ⟨b, off + j, none⟩ = some u) ->
  Calls Try.prog g #[.slice (some ⟨b, off, none⟩) n c] w fun e w' => ∃ v', e = .returned v' /\ w'.ownsRow w.heap.size el ks.length v' n (rowOf ks L) /\ v' ≠ .slice none 0 0 /\ Below w.heap.size w w') : SpGOk Try.prog β g (spClone ks el) := by
 intro args H nl cs ls ρ w xs hr hx hh hc
 unfold spClone at hr
 split at hr
 · cases hr; cases hx
   exact spV_ok (h0 w) rfl hh hc
 · rename_i l off n cp
   split at hr
   rotate_left
   · cases hr
   rename_i t ks' el' n' o' cp' rw hg
   split at hr
   rotate_left
   · cases hr
   rename_i c hcT
   cases hb : (decide (ks = ks') && IT.beq n n' && IT.beq off o' && sureC cs (.cmp .geq n (.lit 1)) && sureC cs (.cmp .leq n (.lit 1000000))) with
   | false => rw [hb] at hr; cases hr
   | true =>
    rw [hb] at hr; cases hr
    simp only [Bool.and_eq_true, decide_eq_true_eq] at hb
    obtain ⟨⟨⟨⟨rfl, h2⟩, h3⟩, h4⟩, h5⟩ := hb
    obtain rfl := IT.beq_eq h2
    obtain rfl := IT.beq_eq h3
    simp only [AVal.denL] at hx
    cases hxd : (AVal.slice l off n cp).den ρ with
    | none => rw [hxd] at hx; cases hx
    | some xv =>
     rw [hxd] at hx; cases hx
     obtain ⟨b, o, m, cap, y, rfl, hn, hy, hl, _, hcell⟩ := whole_row hh hg hcT hxd
     have hm : m <= 1000000 := by
      by_cases hs : sure (.cmp .leq n (.lit 1000000)) = true
      · unfold sure at hs
        split at hs
        · rename_i heq
          cases heq
          split at hs
          · rename_i k hk
            have := szB_ok ρ hk
            simp only [IT.den, Option.some.injEq] at hn
            simp only [iLt_eq, Bool.not_eq_true', decide_eq_false_iff_not, Int.ofNat_eq_natCast] at hs
            omega
          · cases hs
        · cases hs
      · have := sureC_ok h5 (by simpa using hs) hc hn
        simp only [intCmp, Option.some.injEq, decide_eq_true_eq] at this
        omega
     refine (h w b o m cap (decL y) hl hm hcell).mono fun e w' ⟨v', he, hown, hnn, hbel⟩ => ?_
     obtain ⟨ρ', hle, hd, hr'⟩ := row_inY hh (rowOut_owns hl hown hnn (framed_of_below hbel)) hn hy rfl
     exact ⟨v', he, _, _, _, _, ρ', List.mem_cons_self, hle, hd, hr', hc.mono hle⟩
 · cases hr
theorem sp40_ok {β : Base} : SpGOk Try.prog β 40 (spClone [.u64, .i64] 35) := spClone_ok clone40n fun w b off n c L hl hn hc => clone40 w b off n c L hl hn hc
theorem sp43_ok {β : Base} : SpGOk Try.prog β 43 (spClone [.u64] 32) := spClone_ok clone43n fun w b off n c L hl hn hc => clone43 w b off n c L hl hn hc
end Pc
end Go.Proofs.Ytighjgmgpphohaa
end
