/- The law (21): what comes in, opened: rows of rows of words, rows that stand in a struct. -/
import Derived.Test.YtighjgmgpphohaaRw
import Derived.Test.YtighjgmgpphohaaRows
import Derived.Deep.Matrix
import Derived.WalkKit
import Derived.ProofKit
import Derived.OpenShut
import Derived.JoinedOf
import Derived.JoinedCond
import Derived.Test.YtighjgmgpphohaaVm24
section
namespace Go.Proofs.Ytighjgmgpphohaa
open Go.ChangeShapes Go.WideShapes Go.ChangeAt Go.RowKit Go.Vm
namespace Lc
set_option maxRecDepth 100000
open Gr (RowsW LenV)
open La (XIn)
theorem one_le {H : Type} (d : DataW H) : 1 <= Rows.uptoBulk d := by
 cases d with
 | lit l => cases l <;> simp [Rows.uptoBulk]
 | nil => simp [Rows.uptoBulk]
 | ptr d => simp [Rows.uptoBulk]
 | slice elems spare => simp [Rows.uptoBulk]
 | agg parts => simp [Rows.uptoBulk]
 | iface t d => simp [Rows.uptoBulk]
 | map entries => simp [Rows.uptoBulk]
 | held h => simp [Rows.uptoBulk]
theorem bulk_append {H : Type} (l r : List (DataW H)) : Rows.uptoBulkAll (l ++ r) = Rows.uptoBulkAll l + Rows.uptoBulkAll r := by
 induction l with
 | nil => simp [Rows.uptoBulkAll]
 | cons x l ih => simp only [List.cons_append, Rows.uptoBulkAll, ih]; omega
theorem length_le {H : Type} (l : List (DataW H)) : l.length <= Rows.uptoBulkAll l := by
 induction l with
 | nil => simp [Rows.uptoBulkAll]
 | cons x r ih => have := one_le x; simp only [Rows.uptoBulkAll, List.length_cons]; omega
theorem und32 : Try.prog.underlying 32 = some (.int .u64) := by kernel_rfl
theorem cells22 : Try.prog.cellsOf 22 = 1 := by kernel_rfl
theorem cells32 : Try.prog.cellsOf 32 = 1 := by kernel_rfl
section
variable {H : Type} {enc : TypeId × Value -> H} {W : World} {held : Bool}
theorem words_z {b o n : Nat} {L : List Int} {c : Array Value} {fr : Nat × Nat} {el : TypeId} (h1 : W.heap[b]? = some (.cells c el fr)) (h2 : o <= c.size) (h3 : L.length = n) (h4 : L.map (Value.int .u64) <+: c.toList.drop o) : WordsIn W b o n (encL L) := by
 have e : rowOf [.u64] (decL (encL L)) = L.map (Value.int .u64) := by
  rw [decL_encL]
  apply List.ext_getElem?
  intro i
  rw [rowOf_get, List.getElem?_map]
  cases h5 : L[i]? with
  | none => rfl
  | some z => simp only [Option.map_some, List.length_cons, List.length_nil]; rw [show i % (0 + 1) = 0 from Nat.mod_one i]; rfl
 exact ⟨c, fr, el, h1, h2, by rw [e]; exact h4, rowOf_typed (by rw [decL_encL, h3]; simp)⟩
theorem cells_at {a : Addr} {n : Nat} {V : Nat -> Value} (hn : 1 <= n) (h : ∀ i, i < n -> W.cell? (a.add i) = some (V i)) :
 a.spot = none /\ ∃ c fr el, W.heap[a.block]? = some (.cells c el fr) /\ a.off + n <= c.size /\ (List.range n).map V <+: c.toList.drop a.off := by
 have h0 := h 0 hn
 have hs : a.spot = none := by simpa [Addr.add] using World.cell?_spot h0
 obtain ⟨b, o, s⟩ := a
 simp only at hs
 subst hs
 obtain ⟨c, el, fr, hg⟩ : ∃ c el fr, W.heap[b]? = some (.cells c el fr) := by
  unfold World.cell? at h0
  have : (Addr.add ⟨b, o, none⟩ 0).block = b := rfl
  rw [this] at h0
  split at h0
  · rename_i c el fr hg; exact ⟨c, el, fr, hg⟩
  · cases h0
 have cell : ∀ i, i < n -> c[o + i]? = some (V i) := fun i hi => by
  have h1 := h i hi
  rw [addr_add, cell_of W hg] at h1
  exact h1
 refine ⟨rfl, c, fr, el, hg, ?_, ?_⟩
 · have h1 := (Array.getElem?_eq_some_iff.1 (cell (n - 1) (by omega))).1
   show o + n <= c.size
   omega
 · have e : (List.range n).map V = (c.toList.drop o).take n := by
    apply List.ext_getElem?
    intro i
    by_cases hi : i < n
    · rw [List.getElem?_take_of_lt hi, List.getElem?_drop, List.getElem?_map, List.getElem?_range hi]
      have := cell i hi
      rw [<- Array.getElem?_toList] at this
      rw [this]; rfl
    · rw [List.getElem?_eq_none (by simp; omega), List.getElem?_eq_none (by simp; omega)]
   rw [e]
   exact List.take_prefix _ _
def elOf : Value -> Nat
 | .slice _ n _ => n
 | _ => 0
theorem bulk_row {A : Option Addr} {L C : Nat} {Z : List Int} (hL : L <= C) (hz : Z.length = C) (h0 : A = none -> C = 0) : L + 1 <= Rows.uptoBulk (Go.Deep.intRow (H := H) .u64 A L Z) := by
 cases A with
 | none =>
  have := h0 rfl
  simp only [Go.Deep.intRow, Rows.uptoBulk]; omega
 | some a =>
  have h1 := length_le (lits (H := H) .u64 (Z.take L))
  have h2 : (lits (H := H) .u64 (Z.take L)).length = L := by simp [lits]; omega
  simp only [Go.Deep.intRow, Rows.uptoBulk]
  omega
theorem open47 {r : Reach} {b0 fuel : Nat} {v : Value} {x : DataW H × List MemPlace} (hs : Cell.okWide Try.prog W r b0 47 v) (h : DataW.trod enc Try.prog W 0 (fun _ => true) held fuel 47 [v] = some x) :
 ∃ R : RowsW false W, v = .slice R.ad R.Ws.length R.cap /\ R.sum R.Ws.length <= 11 * Rows.uptoBulk x.1 := by
 rcases Go.Deep.open_int_rows Gr.und47 Gr.und22 und32 cells22 cells32 h with ⟨hcs, hx⟩ | ⟨a, len, cap, A, L, C, Z, hcs, _, hl, hm, rfl, hr⟩
 · refine ⟨⟨0, 0, 0, [], [], fun _ => 0, none, fun h => absurd h (by simp), fun i v h => by simp at h⟩, (List.cons.inj hcs).1, by simp [RowsW.sum]⟩
 · obtain rfl := (List.cons.inj hcs).1
   have hsp : a.spot = none := by
    simp only [Cell.okWide, Gr.und47, Cell.ok] at hs
    exact hs.2.2.2.1
   obtain ⟨b, o, s⟩ := a
   simp only at hsp
   subst hsp
   have row : ∀ i v, ((List.range len).map fun r => Value.slice (A r) (L r) (C r))[i]? = some v -> (v = .slice none 0 0 /\ elOf v = 0) ∨ ∃ b o n c, v = slX b o n c /\ elOf v = n /\ (false = true -> n <= 1000000) /\ (1 <= n -> WordsIn W b o n (((List.range len).map fun r => encL ((Z r).take (L r))).getD i 0)) := fun i v hv => by
    have hi : i < len := by simpa using (List.getElem?_eq_some_iff.1 hv).1
    rw [List.getElem?_map, List.getElem?_range hi] at hv
    have hv : v = Value.slice (A i) (L i) (C i) := (Option.some.inj hv).symm
    subst hv
    obtain ⟨_, hL, hC, hZ, _, hno, hrow⟩ := hr i (by omega)
    have hgz : ((List.range len).map fun r => encL ((Z r).take (L r))).getD i 0 = encL ((Z i).take (L i)) := by
     rw [List.getD, List.getElem?_map, List.getElem?_range hi]; rfl
    rw [hgz]
    cases hA : A i with
    | none =>
     have h0 := hno hA
     have : L i = 0 := by omega
     exact .inl (by rw [this, h0]; exact ⟨rfl, rfl⟩)
    | some a' =>
     obtain ⟨_, hc⟩ := hrow a' hA
     refine .inr ?_
     by_cases hL0 : L i = 0
     · have hsp : a'.spot = none ∨ C i = 0 := by
        by_cases hC0 : C i = 0
        · exact .inr hC0
        · exact .inl (cells_at (by omega) hc).1
       obtain ⟨k, hk⟩ := slX_code hsp
       rw [hL0]
       exact ⟨a'.block, a'.off, 0, k, hk, rfl, (fun e => by cases e), fun e => by omega⟩
     · obtain ⟨h1, c, fr, el, h2, h3, h4⟩ := cells_at (n := L i) (by omega) (fun c hc' => hc c (by omega))
       obtain ⟨b', o', s'⟩ := a'
       simp only at h1
       subst h1
       have e : (List.range (L i)).map (fun c => Value.int .u64 ((Z i).getD c 0)) = ((Z i).take (L i)).map (Value.int .u64) := by
        apply List.ext_getElem?
        intro j
        rw [List.getElem?_map, List.getElem?_map]
        by_cases hj : j < L i
        · have e1 : (Z i)[j]? = some ((Z i).getD j 0) := by rw [List.getD, List.getElem?_eq_getElem (show j < (Z i).length by omega)]; rfl
          rw [List.getElem?_range hj, List.getElem?_take_of_lt hj, e1]; rfl
        · rw [List.getElem?_eq_none (by simp; omega), List.getElem?_eq_none (by simp; omega)]; rfl
       rw [e] at h4
       exact ⟨b', o', L i, C i, (slX_succ (by omega)).symm, rfl, (fun e => by cases e), fun _ => words_z h2 (Nat.le_trans (Nat.le_add_right _ _) h3) (by simp; omega) h4⟩
   refine ⟨⟨b, o, cap, (List.range len).map fun r => .slice (A r) (L r) (C r), (List.range len).map fun r => encL ((Z r).take (L r)), elOf, some ⟨b, o, none⟩, fun h1 => ?_, row⟩, by simp, ?_⟩
   · have hl1 : 1 <= len := by simpa using h1
     obtain ⟨_, c, fr, el, h2, _, h4⟩ := cells_at (a := ⟨b, o, none⟩) (n := len) (V := fun r => .slice (A r) (L r) (C r)) hl1 (fun r hr' => (hr r (by omega)).1)
     exact ⟨rfl, c, fr, el, h2, h4⟩
   · have key : ∀ i, i <= len -> ∀ R : RowsW false W, R.Ws = ((List.range len).map fun r => Value.slice (A r) (L r) (C r)) -> R.el = elOf -> R.sum i <= 11 * Rows.uptoBulkAll ((List.range i).map fun r => Go.Deep.intRow (H := H) .u64 (A r) (L r) (Z r)) := fun i => by
      induction i with
      | zero => intro _ R _ _; exact Nat.zero_le _
      | succ i ih =>
       intro hi R hR he
       have h1 := ih (by omega) R hR he
       obtain ⟨_, hL, hC, hZ, _, hno, hrow⟩ := hr i (by omega)
       have h2 := bulk_row (H := H) hL hZ hno
       have h3 : R.el (R.Ws.getD i (.slice none 0 0)) = L i := by
        rw [hR, he, List.getD, List.getElem?_map, List.getElem?_range (show i < len by omega)]; rfl
       rw [List.range_succ, List.map_append, bulk_append]
       simp only [RowsW.sum, h3, List.map_cons, List.map_nil, Rows.uptoBulkAll]
       omega
     have h1 := key len (Nat.le_refl _) ⟨b, o, cap, (List.range len).map fun r => .slice (A r) (L r) (C r), (List.range len).map fun r => encL ((Z r).take (L r)), elOf, some ⟨b, o, none⟩, (fun h1 => by
      have hl1 : 1 <= len := by simpa using h1
      obtain ⟨_, c, fr, el, h2, _, h4⟩ := cells_at (a := ⟨b, o, none⟩) (n := len) (V := fun r => .slice (A r) (L r) (C r)) hl1 (fun r hr' => (hr r (by omega)).1)
      exact ⟨rfl, c, fr, el, h2, h4⟩), row⟩ rfl rfl
     simp only [List.length_map, List.length_range, Rows.uptoBulk] at h1 ⊢
     omega
theorem len_bulk {P : Program} {t e : TypeId} {fuel n cap : Nat} {ad : Option Addr} {x : DataW H × List MemPlace} (ht : P.underlying t = some (.slice e)) (h : DataW.trod enc P W 0 (fun _ => true) held fuel t [.slice ad n cap] = some x) : n <= Rows.uptoBulk x.1 := by
 rcases DataW.trod_slice ht h with ⟨h0, _⟩ | ⟨a, len, cap', elems, rest, m, _, hcs, rfl, _, hl, hm, hlen, _⟩
 · have := (List.cons.inj h0).1
   simp only [Value.slice.injEq] at this
   omega
 · have h1 := (List.cons.inj hcs).1
   simp only [Value.slice.injEq] at h1
   have h2 := length_le (elems.map (·.1))
   simp only [List.length_map] at h2
   simp only [Rows.uptoBulk]
   omega
theorem openX {t e : TypeId} {ks : List IntKind} {r : Reach} {b0 f fuel : Nat} {v : Value} {x : DataW H × List MemPlace} (ht : Try.prog.underlying t = some (.slice e)) (hc : Try.prog.cellsOf e = ks.length) (hk : 0 < ks.length) (he : flat Try.prog f e = some ks)
 (hs : Cell.okWide Try.prog W r b0 t v) (h : DataW.trod enc Try.prog W 0 (fun _ => true) held fuel t [v] = some x) : ∃ X : LenV, v = X.v /\ XIn ks W X /\ X.n <= Rows.uptoBulk x.1 := by
 have hv : Value.okWide Try.prog W r b0 t v := by simp only [Value.okWide, ht]; exact hs
 have hcl : v.cells.toList = [v] := by
  obtain ⟨a0, l0, c0, rfl⟩ := okWide_slice ht hv
  rfl
 rcases open_rowsR ht hc hk he hv (show DataW.Trod enc Try.prog W 0 (fun _ => true) held t v x.1 x.2 from ⟨fuel, by rw [hcl]; exact h⟩) with rfl | ⟨b, o, len, cap, rfl, _, hrow⟩
 · exact ⟨⟨none, 0, 0⟩, rfl, .inl ⟨rfl, rfl, rfl⟩, Nat.zero_le _⟩
 · refine ⟨⟨some ⟨b, o, none⟩, len, cap⟩, rfl, .inr ⟨b, o, rfl, ?_⟩, len_bulk ht h⟩
   by_cases h0 : len = 0
   · exact .inl h0
   · obtain ⟨u, hu, _⟩ := hrow (by omega)
     obtain ⟨c, fr, el, xs, h1, _, h3, h4, h5⟩ := hu.row
     have e1 := h5.rowOf
     exact .inr ⟨by show 1 <= len; omega, encL (xs.map toZ), c, fr, el, h1, h3, by rw [decL_encL, <- e1]; exact h4, by rw [decL_encL, <- e1]; exact h5⟩
end
end Lc
end Go.Proofs.Ytighjgmgpphohaa
end
section
namespace Go.Proofs.Ytighjgmgpphohaa
open Go.ChangeShapes Go.WideShapes Go.ChangeAt Go.RowKit
theorem andT {a b : Bool} (h : a = true) (g : b = true) : (a && b) = true := by rw [h, g]; rfl
theorem paceLatest_k1 : (laidOutB Try.prog) = true := by kernel_rfl
end Go.Proofs.Ytighjgmgpphohaa
end
section
namespace Go.Proofs.Ytighjgmgpphohaa
open Go.ChangeShapes Go.WideShapes Go.ChangeAt Go.RowKit
theorem paceCounts_k0 : (Rows.paceCountsUptoRow.wf (OpenSpec.ofChange (Rows.OpenSpec.upto Rows.paceCountsSpec).bare)) = true := by kernel_rfl
theorem paceCounts_k1 : (laidOutB Try.prog) = true := paceLatest_k1
theorem paceCounts_k2 : (mapsRowed Try.prog) = true := by kernel_rfl
theorem paceCounts_k3 : (Try.f5.params.all (Try.prog.readableRec ·)) = true := by kernel_rfl
theorem paceCounts_k4 : (namedTie Try.prog Rows.paceCountsUptoRow.named (Rows.OpenSpec.upto Rows.paceCountsSpec).bare.vars) = true := by kernel_rfl
theorem paceCounts_k5 : ((Rows.paceCountsUptoRow.stops == [])) = true := by kernel_rfl
theorem paceCounts_k6 : ((Try.prog.stops == [])) = true := by kernel_rfl
theorem paceCounts_k7 : ((Rows.paceCountsUptoRow.knobs == [])) = true := by kernel_rfl
theorem paceCounts_k8 : ((Try.prog.stopKnobs == [])) = true := by kernel_rfl
theorem paceCounts_k9 : ((Rows.paceCountsUptoRow.inPlace == Try.prog.inPlace 5)) = true := by kernel_rfl
theorem paceCounts_k10 : ((Rows.paceCountsUptoRow.unfollowed == Try.prog.unfollowed 5)) = true := by kernel_rfl
theorem paceCounts_k11 : ((Rows.paceCountsUptoRow.recurses == Try.prog.recurses 5)) = true := by kernel_rfl
theorem paceCounts_k12 : ((Rows.paceCountsUptoRow.named == Try.prog.varsNamed 5)) = true := by kernel_rfl
theorem paceCounts_k13 : ((Rows.paceCountsUptoRow.maps == (Try.f5.params.toList ++ (Rows.OpenSpec.upto Rows.paceCountsSpec).bare.plain.varTypes Try.prog).any (Try.prog.mapsRec ·))) = true := by kernel_rfl
theorem paceCounts_k14 : ((Rows.paceCountsUptoRow.ifaces == (Try.f5.params.toList ++ (Rows.OpenSpec.upto Rows.paceCountsSpec).bare.plain.varTypes Try.prog).any (Try.prog.ifacesRec ·))) = true := by kernel_rfl
theorem paceCounts_k15 : ((Rows.paceCountsUptoRow.mapsOut == Try.prog.mapsAmong Try.f5.resultTypes.toList)) = true := by kernel_rfl
theorem paceCounts_k16 : ((Rows.paceCountsUptoRow.loops == (Try.f5.params.toList ++ (Rows.OpenSpec.upto Rows.paceCountsSpec).bare.plain.varTypes Try.prog).any (Try.prog.loopsFrom ·))) = true := by kernel_rfl
theorem paceCounts_k17 : ((Rows.paceCountsUptoRow.wideKeys == (Try.f5.params.toList ++ (Rows.OpenSpec.upto Rows.paceCountsSpec).bare.plain.varTypes Try.prog ++ Try.f5.resultTypes.toList).any (Try.prog.wideKeysFrom ·))) = true := by kernel_rfl
theorem paceCounts_k18 : ((Rows.OpenSpec.upto Rows.paceCountsSpec).bare.vars.all (Try.prog.varReadable ·)) = true := by kernel_rfl
theorem paceCounts_k19 : (Try.f5.resultTypes.all (fun t => Try.prog.readableRec t && decide (t < Try.prog.types.size))) = true := by kernel_rfl
theorem paceCounts_k20 : ((Rows.paceCountsUptoRow.ifacesOut == Try.f5.resultTypes.toList.any (Try.prog.ifacesRec ·))) = true := by kernel_rfl
theorem paceCounts_k21 : ((Rows.paceCountsUptoRow.loopsOut == Try.f5.resultTypes.toList.any (Try.prog.loopsFrom ·))) = true := by kernel_rfl
theorem paceCounts_k22 : ((Rows.paceCountsUptoRow.plainKeys == Try.prog.plainKeys)) = true := by kernel_rfl
theorem paceCounts_k23 : (Rows.paceCountsUptoRow.shortTexts.isNone) = true := by kernel_rfl
theorem paceCounts_k24 : (Try.prog.stopsHeard) = true := by kernel_rfl
theorem paceCounts_k25 : (Try.prog.mayEnter) = true := by kernel_rfl
theorem paceCounts_k26 : ((Rows.paceCountsUptoRow.lifted == Try.prog.liftsFinal)) = true := by kernel_rfl
theorem paceCounts_k27 : ((Try.prog.make == some Rows.paceCountsUptoRow.make)) = true := by kernel_rfl
theorem paceCounts_k28 : ((Rows.paceCountsUptoRow.kinds == (if Rows.paceCountsUptoRow.domain.isEmpty then [] else Try.f5.params.toList.map fun t => match Try.prog.underlying t with | some (.int k) => some k | _ => none))) = true := by kernel_rfl
theorem paceCounts_k29 : ((Rows.paceCountsUptoRow.pinned == Rows.paceCountsUptoRow.pinnedBy)) = true := by kernel_rfl
theorem paceCounts_k30 : ((Rows.paceCountsUptoRow.veiled == (Try.f5.params.toList ++ (Rows.OpenSpec.upto Rows.paceCountsSpec).bare.plain.varTypes Try.prog ++ Try.f5.resultTypes.toList).any (Try.prog.veiledRec ·))) = true := by kernel_rfl
theorem paceCounts_k31 : (Rows.paceCountsUptoRow.veiledFits Try.prog Try.f5.params.toList (Try.f5.params.toList ++ (Rows.OpenSpec.upto Rows.paceCountsSpec).bare.plain.varTypes Try.prog ++ Try.f5.resultTypes.toList)) = true := by kernel_rfl
set_option maxRecDepth 100000 in
theorem paceCounts_closed : joinedFacts Try.prog 5 Try.f5 (Rows.OpenSpec.upto Rows.paceCountsSpec).bare Rows.paceCountsUptoRow = true := (andT (andT (andT (andT (andT (andT (andT (andT (andT (andT (andT (andT (andT (andT (andT (andT (andT (andT (andT (andT (andT (andT (andT (andT (andT (andT (andT (andT (andT (andT (andT paceCounts_k0 paceCounts_k1) paceCounts_k2) paceCounts_k3) paceCounts_k4) paceCounts_k5) paceCounts_k6) paceCounts_k7) paceCounts_k8) paceCounts_k9) paceCounts_k10) paceCounts_k11) paceCounts_k12) paceCounts_k13) paceCounts_k14) paceCounts_k15) paceCounts_k16) paceCounts_k17) paceCounts_k18) paceCounts_k19) paceCounts_k20) paceCounts_k21) paceCounts_k22) paceCounts_k23) paceCounts_k24) paceCounts_k25) paceCounts_k26) paceCounts_k27) paceCounts_k28) paceCounts_k29) paceCounts_k30) paceCounts_k31)
theorem paceCounts_named : Try.prog.funcNamed "roundelay/roundelaylaw04.PaceCounts" = some 5 := by kernel_rfl
theorem paceCounts_inst : Try.f5.isInstance Try.prog Rows.paceCountsUptoRow.origin Rows.paceCountsUptoRow.targs := of_decide_eq_true (by kernel_rfl)
theorem paceCounts_wrap : Try.f5.isWrapper Try.prog Rows.paceCountsUptoRow.wrapper Rows.paceCountsUptoRow.mainSum := by unfold Func.isWrapper; first | (rw [if_pos (by decide +kernel)]; kernel_rfl) | (rw [if_neg (by decide +kernel)]; exact ⟨rfl, rfl⟩)
end Go.Proofs.Ytighjgmgpphohaa
end
section
namespace Go.Proofs.Ytighjgmgpphohaa
open Go.ChangeShapes Go.WideShapes Go.ChangeAt Go.RowKit Go.Vm
set_option linter.unusedVariables false
namespace Lc
set_option maxRecDepth 100000
open Gr (RowsW LenV tot)
open La (XIn law5 pV)
theorem own : ownKnob Try.prog.godebug = none := by kernel_rfl
theorem laidOut : laidOutB Try.prog = true := paceLatest_k1
theorem readable_of {f : Func} (h : f.params.toList.all (fun t => Try.prog.readableRec t && Nat.blt t Try.prog.types.size) = true) : ∀ t ∈ f.params.toList, Try.prog.readableRec t = true /\ t < Try.prog.types.size := fun t ht => by
 have := List.all_eq_true.1 h t ht
 simp only [Bool.and_eq_true] at this
 exact ⟨this.1, Nat.le_of_ble_eq_true this.2⟩
theorem readable5 : ∀ t ∈ Try.f5.params.toList, Try.prog.readableRec t = true /\ t < Try.prog.types.size := readable_of (by kernel_rfl)
theorem cellT49 : Try.prog.cellTypes Try.prog.depth 49 = some [3, 29, 22, 47] := by kernel_rfl
theorem cells49 : Try.prog.cellsOf 49 = 4 := by kernel_rfl
theorem cells35 : Try.prog.cellsOf 35 = [IntKind.u64, IntKind.i64].length := by kernel_rfl
theorem flat35 : flat Try.prog 4 35 = some [.u64, .i64] := by kernel_rfl
theorem flat32 : flat Try.prog 4 32 = some [.u64] := by kernel_rfl
section
variable {H : Type} {enc : TypeId × Value -> H} {W : World} {held : Bool}
theorem open49 {r : Reach} {b0 : Nat} {v : Value} {d : DataW H} {p : List MemPlace} (hv : Value.okWide Try.prog W r b0 49 v) (h : DataW.Trod enc Try.prog W 0 (fun _ => true) held 49 v d p) :
 ∃ (k : Int) (X Y : LenV) (R : RowsW false W), v = .agg #[.int .i64 k, X.v, Y.v, .slice R.ad R.Ws.length R.cap] /\ XIn [.u64, .i64] W X /\ XIn [.u64] W Y /\ 10 + X.n + Y.n + R.sum R.Ws.length <= 13 * Rows.uptoBulk d := by
 simp only [Value.okWide, Try.underlying49] at hv
 obtain ⟨cs, rfl, hsz, ts, hts, _, hcell⟩ := hv
 rw [cellT49] at hts
 obtain rfl := Option.some.inj hts
 rw [cells49] at hsz
 obtain ⟨fuel, hf⟩ := h
 have hf : DataW.trod enc Try.prog W 0 (fun _ => true) held fuel 49 cs.toList = some (d, p) := hf
 obtain ⟨c0, c1, c2, c3, hcs⟩ : ∃ c0 c1 c2 c3, cs = #[c0, c1, c2, c3] := by
  obtain ⟨l⟩ := cs
  match l, hsz with
  | [c0, c1, c2, c3], _ => exact ⟨c0, c1, c2, c3, rfl⟩
 subst hcs
 obtain ⟨xs, n, _, hx, _, hlen, hx4⟩ := DataW.trod_struct Try.underlying49 hf
 obtain ⟨x0, x1, x2, x3, hxs⟩ : ∃ x0 x1 x2 x3, xs = [x0, x1, x2, x3] := by
  have : xs.length = 4 := hlen
  match xs, this with
  | [x0, x1, x2, x3], _ => exact ⟨x0, x1, x2, x3, rfl⟩
 subst hxs
 have f0 := hx4 0 _ rfl
 have f1 := hx4 1 _ rfl
 have f2 := hx4 2 _ rfl
 have f3 := hx4 3 _ rfl
 have f0 : DataW.trod enc Try.prog W 0 (fun _ => true) held n 3 [c0] = some x0 := f0
 have f1 : DataW.trod enc Try.prog W 0 (fun _ => true) held n 29 [c1] = some x1 := f1
 have f2 : DataW.trod enc Try.prog W 0 (fun _ => true) held n 22 [c2] = some x2 := f2
 have f3 : DataW.trod enc Try.prog W 0 (fun _ => true) held n 47 [c3] = some x3 := f3
 have k1 : Cell.okWide Try.prog W r b0 29 c1 := by
  obtain ⟨u, hu, h⟩ := hcell 1 c1 rfl
  obtain rfl : u = 29 := (Option.some.inj hu).symm
  exact h
 have k2 : Cell.okWide Try.prog W r b0 22 c2 := by
  obtain ⟨u, hu, h⟩ := hcell 2 c2 rfl
  obtain rfl : u = 22 := (Option.some.inj hu).symm
  exact h
 have k3 : Cell.okWide Try.prog W r b0 47 c3 := by
  obtain ⟨u, hu, h⟩ := hcell 3 c3 rfl
  obtain rfl : u = 47 := (Option.some.inj hu).symm
  exact h
 obtain ⟨z, h0, _, _⟩ := DataW.trod_int Try.underlying3 f0
 obtain ⟨X, rfl, hX, bX⟩ := openX Gr.und29 cells35 (by decide) flat35 k1 f1
 obtain ⟨Y, rfl, hY, bY⟩ := openX (ks := [.u64]) Gr.und22 cells32 (by decide) flat32 k2 f2
 obtain ⟨R, rfl, bR⟩ := open47 k3 f3
 obtain rfl : c0 = .int .i64 z := (List.cons.inj h0).1
 refine ⟨z, X, Y, R, rfl, hX, hY, ?_⟩
 have hd : d = .agg [x0.1, x1.1, x2.1, x3.1] := congrArg (·.1) hx
 rw [hd]
 simp only [Rows.uptoBulk, Rows.uptoBulkAll]
 omega
theorem open47V {r : Reach} {b0 : Nat} {v : Value} {d : DataW H} {p : List MemPlace} (hv : Value.okWide Try.prog W r b0 47 v) (h : DataW.Trod enc Try.prog W 0 (fun _ => true) held 47 v d p) :
 ∃ R : RowsW false W, v = .slice R.ad R.Ws.length R.cap /\ R.sum R.Ws.length <= 11 * Rows.uptoBulk d := by
 obtain ⟨fuel, hf⟩ := h
 obtain ⟨a0, l0, c0, rfl⟩ := okWide_slice Gr.und47 hv
 have hs : Cell.okWide Try.prog W r b0 47 (.slice a0 l0 c0) := by simpa only [Value.okWide, Gr.und47] using hv
 exact open47 hs (x := (d, p)) hf
end
theorem contract (H : Type) (enc : TypeId × Value -> H) (W : World) (base : Nat) (args : Array Value) (ds gs : List (DataW H)) (before : List MemPlace)
 (hval0 : ∀ (j : Nat) t v, Try.f5.params[j]? = some t -> args[j]? = some v -> Value.okWide Try.prog W .any base t v)
 (hW : DataW.Whole enc Try.prog Try.f5.params.toList Rows.paceCountsSpec.vars false W args.toList ds gs before) (hk : Rows.uptoSmall H (ds ++ gs) = true) :
 Calls Try.prog 5 args W fun e W' => ∃ v, e = .returned v /\ Rows.paceCountsSpec.post enc Try.prog Try.f5 false true false false W args v W' := by
 have hval : ∀ (j : Nat) t v, Try.f5.params[j]? = some t -> args[j]? = some v -> Value.okWide Try.prog W .any base t v := hval0
 have hW' := hW
 obtain ⟨p, q, hA0, hV, rfl, hfz, hnd⟩ := hW
 have hA : DataW.TrodAll enc Try.prog W 0 (fun _ => true) true Try.f5.params.toList args.toList ds p := hA0
 rw [Try.params5] at hA hval
 obtain ⟨v0, vs0, d0, ds0, p0, q0, hargs, rfl, rfl, h0, r0⟩ := trodAll_cons hA
 obtain ⟨v1, vs1, d1, ds1, p1, q1, rfl, rfl, rfl, h1, r1⟩ := trodAll_cons r0
 obtain ⟨rfl, rfl, rfl⟩ := trodAll_nil r1
 obtain rfl : args = #[v0, v1] := by cases args; simp_all
 obtain ⟨rfl, rfl⟩ := trodVars_none hV
 obtain ⟨R1, rfl, b1⟩ := open47V (hval 0 47 v0 rfl rfl) h0
 obtain ⟨k, X, Y, R2, rfl, hX, hY, b2⟩ := open49 (hval 1 49 v1 rfl rfl) h1
 clear hA0 hval0
 simp only [List.append_nil] at hW' hk
 have hT : tot R1 R2 X Y < 4611686018427387904 := by
  have h : Rows.uptoBulkAll [d0, d1] <= 1048576 := of_decide_eq_true hk
  simp only [Rows.uptoBulkAll] at h
  unfold Gr.tot
  omega
 refine (law5 R1 R2 X Y k hX hY hT).mono fun e W' ⟨x, he, hx, hg⟩ => ?_
 subst hx
 refine ⟨_, he, ?_⟩
 exact law_shut (tb := 4) laidOut readable5 (by kernel_rfl) Try.underlying4 hW' rfl rfl rfl rfl (below_of_framed hg)
theorem lifted (os : Os) (started : os.Started) (H : Type) (enc : TypeId × Value -> H) (F : Stop.Interp) :
 ReturnsInHanded {} Try.checked os 5 .any ((Rows.OpenSpec.upto Rows.paceCountsSpec).pre6 enc Try.prog Try.f5 Rows.paceCountsUptoRow.domain false) (((Rows.OpenSpec.upto Rows.paceCountsSpec).at F).post enc Try.prog Try.f5 false true false false) := by
 refine returnsInHanded_of_cond (C := Try.checked) (s := Rows.OpenSpec.upto Rows.paceCountsSpec) (k := Rows.uptoSmall) rfl own started (by kernel_rfl) Try.func5
  (OpenSpec.witness (enc := enc) (C := Try.checked) (s := Rows.OpenSpec.upto Rows.paceCountsSpec) (k := Rows.uptoSmall) rfl false ⟨#[], #[.slice none 0 0, .agg #[.int .i64 0, .slice none 0 0, .slice none 0 0, .slice none 0 0]], []⟩ 8 (by kernel_rfl) (by kernel_rfl) (by kernel_rfl)
   (x := ([.nil, .agg [.lit (.int .i64 0), .nil, .nil, .nil]], [], [])) (by kernel_rfl) rfl (by kernel_rfl)) ?_
 intro W base args ds gs before hval hW _ hk _
 exact contract H enc W base args ds gs before hval hW hk
theorem over : Rows.paceCountsUptoRow.holds Try.pinned (Rows.OpenSpec.upto Rows.paceCountsSpec) :=
 OpenClaim.holds_of_cond 5 Try.f5 rfl rfl rfl rfl rfl rfl rfl ⟨rfl, rfl, rfl, rfl, rfl⟩ rfl rfl rfl rfl rfl paceCounts_named Try.func5 paceCounts_closed paceCounts_inst paceCounts_wrap
  (fun os started H enc _ F => lifted os started H enc F)
end Lc
theorem provedPaceCounts : Rows.PaceCountsUptoSaid :=
 Lc.over
end Go.Proofs.Ytighjgmgpphohaa
end
