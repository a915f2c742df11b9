/-
  A machine for abstract states over the model (part 11): every operation.
-/
import Derived.Test.YtgiomdniafpjnaaGreatDoorVm10
import Derived.Lib.Bytealg
import Derived.Laws.BytesString
import Derived.Lib.UnsafeStr
import GoSem.Extern.Table
namespace Go.Vm

inductive ER where
  | val (v : AVal) (H : Heap) (nl : Nat) (mu : List BT)
  | skip (H : Heap) (nl : Nat)
  | skipM (H : Heap) (nl : Nat) (mu : List BT)
  | call (g : FuncId) (args : List AVal)

/-- No function of the program is the one that counts goroutines. -/
def NoCount (P : Program) : Prop := ∀ (g : Nat) fn, P.funcs[g]? = some fn → (fn.name == "runtime.NumGoroutine") = false

section
variable {P : Program} {β : Base} {ρ : Env} {H : Heap} {nl : Nat} {w : World}

def hasBody (P : Program) (g : FuncId) : Bool :=
  match P.funcs.toList[g]? with
  | some fn => fn.body.isSome
  | none => false
theorem callFunc_run (hc : NoCount P) {g : FuncId} (h : hasBody P g = true) (args : Array Value) : (callFunc g args).run P w = .ok (.enter g args) w := by
  unfold hasBody at h
  split at h
  · rename_i fn hfn
    have hfn' : P.funcs[g]? = some fn := by simpa using hfn
    have hn := hc g fn hfn'
    have hb : fn.body.isNone = false := by cases hb : fn.body <;> simp_all
    unfold callFunc
    simp only [Sem.run_bind, run_program, Result.andThen_ok, hfn', hn, hb, Bool.false_eq_true, if_false, Sem.run_pure]
  · cases h

theorem wrapnil (a : Addr) (T : Array TypeId) (ty : TypeId) (m : String) (w : World) :
    (Builtin.ssaWrapNilChk_ T ty #[.pointer (some a), strVal "", strVal m]).run P w = .ok (.pointer (some a)) w := rfl

def aMethod (P : Program) (t : TypeId) (v : AVal) (name : String) (H : Heap) : Option (FuncId × AVal) :=
  match P.info? t with
  | some i => match i.methods.find? (·.name == name) with
    | some m => match m.path.toList, m.func with
      | [], some (f, true) => match P.underlying t with
        | some (.pointer _) => some (f, v)
        | _ => none
      | [], some (f, false) => match P.underlying t with
        | some (.pointer e) => match v with
          | .ptr l o => (aLoad P e (.ptr l o) H).map fun u => (f, u)
          | _ => none
        | some _ => some (f, v)
        | none => none
      | _, _ => none
    | none => none
  | none => none
theorem aMethod_ok {t : TypeId} {v u : AVal} {name : String} {f : FuncId} {x : Value} (h : aMethod P t v name H = some (f, u)) (hx : v.den ρ = some x) (hr : HRel β ρ H nl w) (n : Nat) :
    ∃ y, u.den ρ = some y ∧ (method (n + 1) t x name).run P w = .ok (f, y) w := by
  unfold aMethod at h
  split at h
  rotate_left
  · cases h
  rename_i i hi
  split at h
  rotate_left
  · cases h
  rename_i m hm
  split at h
  · rename_i g hp hf
    split at h
    · rename_i e hu
      cases h
      refine ⟨x, hx, ?_⟩
      have hp' : m.path.isEmpty = true := by simpa using hp
      simp only [method, Sem.run_bind, run_info hi, Result.andThen_ok, hm, hp, follow, Sem.run_pure, hf, receiverAt, run_und hu, Place.get]
    · cases h
  · rename_i g hp hf
    split at h
    · rename_i e hu
      split at h
      · rename_i l o
        obtain ⟨u', hl, he⟩ := map_some h
        cases he
        obtain ⟨y, hy, hd⟩ := aLoad_ok hl hx hr
        obtain ⟨b, o', rfl, _, _⟩ := den_ptr hx
        refine ⟨y, hd, ?_⟩
        have hp' : m.path.isEmpty = true := by simpa using hp
        have hy' : (loadVar e ⟨b, o', none⟩).run P w = .ok y w := by simpa [Instr.loadAt, Instr.sureAddr] using hy
        simp only [method, Sem.run_bind, run_info hi, Result.andThen_ok, hm, hp, follow, Sem.run_pure, hf, receiverAt, run_und hu, Place.get, hp', if_true, wrapnil]
        simp [asAddr, hy']
      · cases h
    · rename_i d hne hu
      cases h
      refine ⟨x, hx, ?_⟩
      simp only [method, Sem.run_bind, run_info hi, Result.andThen_ok, hm, hp, follow, Sem.run_pure, hf, receiverAt, run_und hu, Place.get]
    · cases h
  · cases h

-- FUNCTIONS WITHOUT A BODY
inductive XK where
  | count
  | indexByte
  | mapsClone
  | same
def XK.sem : XK → Array Value → Sem Value
  | .count => Extern.BytealgCount.count
  | .indexByte => Extern.BytealgIndexByte.indexByte
  | .mapsClone => Extern.MapsClone.clone
  | .same => Extern.AbiNoEscape.same
abbrev Exts := List (FuncId × XK)
def Exts.get : Exts → FuncId → Option XK
  | [], _ => none
  | (g, k) :: r, f => cond (Nat.beq g f) (some k) (Exts.get r f)
def ExtOk (P : Program) (E : Exts) : Prop := ∀ g k, E.get g = some k → ∃ fn, P.funcs[g]? = some fn ∧ fn.body = none ∧ Extern.findNext fn = none ∧ Extern.find fn = some k.sem
theorem ext_run (hc : NoCount P) {E : Exts} (hE : ExtOk P E) {g : FuncId} {k : XK} (h : E.get g = some k) {args : Array Value} {x : Value} {w' : World} (hr : (k.sem args).run P w = .ok x w') : (callFunc g args).run P w = .ok (.value x) w' := by
  obtain ⟨fn, h1, h2, h3, h4⟩ := hE g k h
  have hn := hc g fn h1
  unfold callFunc
  simp only [Sem.run_bind, run_program, Result.andThen_ok, h1, hn, h2, Option.isNone_none, Bool.false_eq_true, if_false, if_true, run_mark, h3, h4, hr, Sem.run_pure]
def XK.run (k : XK) (args : List AVal) (H : Heap) (nl : Nat) : Option (AVal × Heap × Nat) :=
  match k, args with
  | .count, [.str (.lit s), .int .u8 (.lit c)] => some (.int .i64 (.lit (.ofNat (s.count c.toNat.toUInt8))), H, nl)
  | .indexByte, [.str (.lit s), .int .u8 (.lit c)] => some (.int .i64 (.lit (Lib.indexByte s c.toNat.toUInt8)), H, nl)
  | .mapsClone, [.iface t (.map l)] => match H.get l with
    | some ⟨.map es cl, _⟩ => some (.iface t (.map nl), H.set nl ⟨.map es cl, true⟩, nl + 1)
    | some ⟨.mapc c, _⟩ => some (.iface t (.map nl), H.set nl ⟨.mapc c, true⟩, nl + 1)
    | _ => none
  | .same, [v] => some (v, H, nl)
  | _, _ => none
theorem XK.run_ok {k : XK} {args : List AVal} {xs : List Value} {v : AVal} {H' : Heap} {nl' : Nat} (h : k.run args H nl = some (v, H', nl')) (hx : AVal.denL ρ args = some xs) (hr : HRel β ρ H nl w) :
    ∃ ρ' w' x, ρ.Le ρ' ∧ (k.sem xs.toArray).run P w = .ok x w' ∧ v.den ρ' = some x ∧ HRel β ρ' H' nl' w' := by
  unfold XK.run at h
  split at h
  · rename_i s c
    cases h
    simp only [AVal.denL, AVal.den, ST.den, IT.den, Option.map_some, Option.some.injEq] at hx
    subst hx
    exact ⟨ρ, w, _, Env.Le.refl ρ, Lib.run_countString ⟨s.toArray⟩ c w, rfl, hr⟩
  · rename_i s c
    cases h
    simp only [AVal.denL, AVal.den, ST.den, IT.den, Option.map_some, Option.some.injEq] at hx
    subst hx
    exact ⟨ρ, w, _, Env.Le.refl ρ, Lib.run_indexByteString ⟨s.toArray⟩ c w, rfl, hr⟩
  · rename_i t l
    split at h
    · rename_i es cl rw hl
      cases h
      simp only [AVal.denL] at hx
      split at hx
      · rename_i y l' hy hl'
        cases hx; cases hl'
        obtain ⟨z, rfl, hz⟩ := den_iface hy
        obtain ⟨b, rfl, hb⟩ := den_map hz
        obtain ⟨es', hg, hes⟩ := hr.map hl hb
        refine ⟨ρ.put nl w.heap.size, _, .iface t (.map (some w.heap.size)), Env.le_put (hr.fresh nl (Nat.le_refl _)), ?_, by simp [AVal.den, Env.put_same], hr.new (.map es'.toArray cl) (.map es cl) true ⟨es', rfl, hes⟩⟩
        show (Extern.MapsClone.clone #[.iface t (.map (some b))]).run P w = _
        change ((getObj _ >>= _ : Sem Value)).run P w = _
        simp [getObj_map hg]
      · cases hx
    · rename_i c rw hl
      cases h
      simp only [AVal.denL] at hx
      split at hx
      · rename_i y l' hy hl'
        cases hx; cases hl'
        obtain ⟨z, rfl, hz⟩ := den_iface hy
        obtain ⟨b, rfl, hb⟩ := den_map hz
        obtain ⟨x, es', cl, hg, hc, hes⟩ := hr.mapcB hl hb
        refine ⟨ρ.put nl w.heap.size, _, .iface t (.map (some w.heap.size)), Env.le_put (hr.fresh nl (Nat.le_refl _)), ?_, by simp [AVal.den, Env.put_same], hr.new (.map es' cl) (.mapc c) true ⟨x, es', cl, rfl, hc, hes⟩⟩
        show (Extern.MapsClone.clone #[.iface t (.map (some b))]).run P w = _
        change ((getObj _ >>= _ : Sem Value)).run P w = _
        simp [getObj_map hg]
      · cases hx
    · cases h
  · rename_i u
    cases h
    simp only [AVal.denL] at hx
    split at hx
    · rename_i y l' hy hl'
      cases hx; cases hl'
      exact ⟨ρ, w, y, Env.Le.refl ρ, rfl, hy, hr⟩
    · cases hx
  · cases h

-- TEXTS AND BYTES
theorem push_modify {α : Type} (a : Array α) (x : α) (f : α → α) : (a.push x).modify a.size f = a.push (f x) := by
  apply Array.ext_getElem?
  intro i
  rw [Array.getElem?_modify]
  by_cases hi : a.size = i
  · subst hi; simp
  · rw [if_neg hi]
    simp only [Array.getElem?_push]
    simp [Ne.symm hi]
def bytesOfA : List AVal → Option (List Int)
  | [] => some []
  | .int .u8 (.lit n) :: r => (bytesOfA r).map (n :: ·)
  | _ => none
theorem bytesOfA_ok : ∀ {l : List AVal} {ns : List Int} {xs : List Value}, bytesOfA l = some ns → AVal.denL ρ l = some xs → xs = ns.map (Value.int .u8)
  | [], ns, xs, h, hx => by cases h; cases hx; rfl
  | v :: r, ns, xs, h, hx => by
    simp only [AVal.denL] at hx
    split at hx
    · rename_i x l hv hl
      cases hx
      cases v with
      | int k t =>
        unfold bytesOfA at h
        split at h
        · rename_i heq; cases heq
        · rename_i n r' heq
          cases heq
          obtain ⟨ms, hm, rfl⟩ := map_some h
          rw [bytesOfA_ok hm hl]
          simp only [AVal.den, IT.den, Option.map_some, Option.some.injEq] at hv
          rw [← hv]; rfl
        · cases h
      | _ => simp [bytesOfA] at h
    · cases hx
theorem push_bytes : ∀ (ns : List Int) (b : ByteArray), ns.foldl (fun r n => r.push (UInt8.ofNat n.toNat)) b = ⟨(b.data.toList ++ ns.map fun n => UInt8.ofNat n.toNat).toArray⟩
  | [], b => by apply ByteArray.ext; simp
  | n :: r, b => by
    rw [List.foldl_cons, push_bytes r]
    apply ByteArray.ext
    simp [ByteArray.push]

/-- Bytes that are numbers out of the names. -/
def bytesT : List AVal → Option (List PT)
  | [] => some []
  | .int .u8 t :: r => match t.toP, bytesT r with
    | some p, some l => some (p :: l)
    | _, _ => none
  | _ => none
def stOf : List PT → ST
  | [] => .lit []
  | [p] => .byt p
  | p :: r => .cat (.byt p) (stOf r)
theorem bytesT_ok : ∀ {l : List AVal} {ps : List PT} {xs : List Value}, bytesT l = some ps → AVal.denL ρ l = some xs → xs = (ps.map fun p => p.den ρ).map (Value.int .u8)
  | [], ps, xs, h, hx => by cases h; cases hx; rfl
  | v :: r, ps, xs, h, hx => by
    cases v with
    | int k t =>
      cases k with
      | u8 =>
        simp only [bytesT] at h
        split at h
        · rename_i p l hp hl
          cases h
          simp only [AVal.denL, AVal.den, IT.toP_den hp, Option.map_some] at hx
          split at hx
          · rename_i x xs' hx1 hx2
            cases hx; cases hx1
            rw [bytesT_ok hl hx2]; rfl
          · cases hx
        · cases h
      | _ => simp [bytesT] at h
    | _ => simp [bytesT] at h
theorem stOf_den : ∀ ps : List PT, (stOf ps).den ρ = ⟨(ps.map fun p => UInt8.ofNat (p.den ρ).toNat).toArray⟩
  | [] => rfl
  | [p] => rfl
  | p :: q :: r => by
    show (ST.byt p).den ρ ++ (stOf (q :: r)).den ρ = _
    rw [stOf_den (q :: r)]
    apply ByteArray.ext
    simp [ST.den]
def aConvW (P : Program) (s d : TypeId) (x : AVal) (H : Heap) (nl : Nat) : Option (AVal × Heap × Nat) :=
  match P.underlying s, P.underlying d, x with
  | some _, some (.slice e), .str (.lit b) => match P.underlying e with
    | some (.int .u8) => some (.slice (nl + 1) (.lit 0) (.lit (.ofNat b.length)) (.nv nl), H.set (nl + 1) ⟨.cells (b.map fun c => .int .u8 (.lit (.ofNat c.toNat))) e (some (nl, 1)), true⟩, nl + 2)
    | _ => none
  | some (.slice e), some .string, .slice l off len _ => match P.underlying e, litNat off, litNat len, getCells H l with
    | some (.int .u8), some o, some n, some (vals, _, _, _) => cond (Nat.ble (o + n) vals.length) (match bytesOfA ((vals.drop o).take n) with
      | some ns => some (.str (.lit (ns.map fun n => UInt8.ofNat n.toNat)), H, nl)
      | none => match bytesT ((vals.drop o).take n) with
        | some ps => some (.str (stOf ps), H, nl)
        | none => none) none
    | _, _, _, _ => none
  | some (.slice e), some .string, .sliceNil => match P.underlying e with
    | some (.int .u8) => some (.str (.lit []), H, nl)
    | _ => none
  | some (.pointer t), some .unsafePointer, .ptr l off => match litNat off, getCells H l, P.info? t with
    | some o, some (vals, _, none, _), some i => cond (Nat.blt o vals.length && !Nat.beq i.size 0) (some (.ptr l off, H, nl)) none
    | _, _, _ => none
  | some .unsafePointer, some (.pointer u), .ptr l off => match litNat off, getCells H l, P.info? u with
    | some o, some (vals, e, none, _), some i => cond (liesAt P P.depth e (vals.length / P.cellsOf e) o u 1 && !Nat.beq i.size 0) (some (.ptr l off, H, nl)) none
    | _, _, _ => none
  | _, _, _ => none
theorem shape_of {b : Nat} {c : Array Value} {e : TypeId} {fr : Nat × Nat} (hg : w.heap[b]? = some (.cells c e fr)) : w.shape? b = some (e, c.size) := by simp [World.shape?, hg]
theorem seenAt_run {a : Addr} {sh : TypeId × Nat} (h : w.shape? a.block = some sh) : (Conv.seenAt a).run P w = .ok a w := by
  simp [Conv.seenAt, viewAt, h]
theorem aConvW_ok {s d : TypeId} {x v : AVal} {H' : Heap} {nl' : Nat} {xv : Value} (h : aConvW P s d x H nl = some (v, H', nl')) (hx : x.den ρ = some xv) (hr : HRel β ρ H nl w) : VOk P β ρ w (convert s d xv) v H' nl' := by
  unfold aConvW at h
  split at h
  · rename_i ds e b hs hd
    split at h
    · rename_i he
      cases h
      simp only [AVal.den, ST.den, Option.some.injEq] at hx
      subst hx
      obtain ⟨cap, hcap, hch⟩ := run_cap (P := P) (w := w) b.length 0 e
      have h1 := hr.drew.num cap
      have hle1 : ρ.Le (ρ.put nl cap) := Env.le_put (hr.fresh nl (Nat.le_refl _))
      let c : Array Value := (b.map fun x => Value.int .u8 x.toNat).toArray ++ Array.replicate (cap - b.length) (.int .u8 0)
      have hcs : c.size = cap := by simp only [c, Array.size_append, List.size_toArray, List.length_map, Array.size_replicate]; omega
      have hrel : (ABlk.cells (b.map fun c => .int .u8 (.lit (.ofNat c.toNat))) e (some (nl, 1))).rel (ρ.put nl cap) true (.cells c e (c.size, c.size + 1)) :=
        ⟨_, c, (c.size, c.size + 1), rfl, denL_bytes b, ⟨(Array.replicate (cap - b.length) (Value.int .u8 0)).toList, by simp [c]⟩, ⟨by rw [hcs]; simpa using hcap, cap, Env.put_same .., by rw [hcs]; omega⟩, fun _ => .inr (Nat.le_refl _)⟩
      have h2 := h1.new _ _ true hrel
      have hle2 : (ρ.put nl cap).Le ((ρ.put nl cap).put (nl + 1) w.heap.size) := Env.le_put (h1.fresh _ (Nat.le_refl _))
      have hsz : (ByteArray.mk b.toArray).size = b.length := by show b.toArray.size = _; simp
      refine ⟨_, _, .slice (some ⟨w.heap.size, 0, none⟩) b.length cap, hle1.trans hle2, ?_, ?_, h2⟩
      · have e1 : ((ByteArray.mk b.toArray).data.map fun x => Value.int .u8 x.toNat) = (b.map fun x => Value.int .u8 x.toNat).toArray := by simp
        have e2 : ((w.heap.push (Obj.cells c e))[w.heap.size]?) = some (.cells c e) := by simp
        simp only [convert, Sem.run_bind, run_und hs, run_und hd, Result.andThen_ok, run_und he, Conv.stringToBytes, hsz, hch, e1, newRow, run_newObj, Sem.run_pure, markStringish, run_shape, World.shape?]
        show Result.andThen (Sem.run P (match (match (w.heap.push (Obj.cells c e))[w.heap.size]? with | some (Obj.cells c elem _) => some (elem, c.size) | _ => none) with | some (_, n) => freeze { block := w.heap.size, off := n } 1 | _ => pure ()) _) _ = _
        rw [e2]
        simp only [run_freeze, Result.andThen_ok, World.freeze]
        rw [push_modify]
        simp [hcs, c]
      · have e0 : natOf ((IT.lit 0).den ((ρ.put nl cap).put (nl + 1) w.heap.size)) = some 0 := rfl
        have e1 : natOf ((IT.lit (Int.ofNat b.length)).den ((ρ.put nl cap).put (nl + 1) w.heap.size)) = some b.length := rfl
        have e2 : natOf ((IT.nv nl).den ((ρ.put nl cap).put (nl + 1) w.heap.size)) = some cap := by
          have : ((ρ.put nl cap).put (nl + 1) w.heap.size).N nl = some cap := hle2.n _ _ (Env.put_same ..)
          simp [IT.den, this, natOf]
        simp only [AVal.den, Env.put_same, e0, e1, e2]
    · cases h
  · rename_i e l off len cap hs hd
    split at h
    · rename_i o n vals e' tl rw he ho hn hc
      cases hb : Nat.ble (o + n) vals.length with
      | false => rw [hb] at h; cases h
      | true =>
        rw [hb] at h; simp only [cond_true] at h
        have hle := Nat.le_of_ble_eq_true hb
        split at h
        · rename_i ns hns
          cases h
          obtain ⟨b, o', n', c', rfl, hN, hoff, hlen, _⟩ := den_slice hx
          rw [litNat_den ho] at hoff; rw [litNat_den hn] at hlen
          obtain rfl := nat_of_some hoff
          obtain rfl := nat_of_some hlen
          obtain ⟨xs, c, fr, hg, hxs, hp, _, _⟩ := hr.cells hc hN
          have hl := AVal.denL_length hxs
          have hlc : xs.length ≤ c.size := by simpa using hp.length_le
          have hrun := loadCells_run (P := P) hg (show o + n ≤ c.size by omega)
          have he2 : (c.toList.drop o).take n = (xs.drop o).take n := by
            obtain ⟨r, hr'⟩ := hp
            rw [← hr', List.drop_append, List.take_append]
            have : n - (xs.length - o) = 0 := by omega
            simp [this]
          rw [he2, bytesOfA_ok hns (AVal.denL_take _ (AVal.denL_drop _ hxs))] at hrun
          refine ⟨ρ, w, _, Env.Le.refl ρ, ?_, rfl, hr⟩
          rw [run_convert_bytes_string w s d e _ n c' hs he hd, run_bytesToString w ⟨b, o, none⟩ n c' ns hrun, push_bytes]
          rfl
        · split at h
          rotate_left
          · cases h
          rename_i ps hps
          cases h
          obtain ⟨b, o', n', c', rfl, hN, hoff, hlen, _⟩ := den_slice hx
          rw [litNat_den ho] at hoff; rw [litNat_den hn] at hlen
          obtain rfl := nat_of_some hoff
          obtain rfl := nat_of_some hlen
          obtain ⟨xs, c, fr, hg, hxs, hp, _, _⟩ := hr.cells hc hN
          have hl := AVal.denL_length hxs
          have hlc : xs.length ≤ c.size := by simpa using hp.length_le
          have hrun := loadCells_run (P := P) hg (show o + n ≤ c.size by omega)
          have he2 : (c.toList.drop o).take n = (xs.drop o).take n := by
            obtain ⟨r, hr'⟩ := hp
            rw [← hr', List.drop_append, List.take_append]
            have : n - (xs.length - o) = 0 := by omega
            simp [this]
          rw [he2, bytesT_ok hps (AVal.denL_take _ (AVal.denL_drop _ hxs))] at hrun
          refine ⟨ρ, w, .string ((stOf ps).den ρ), Env.Le.refl ρ, ?_, rfl, hr⟩
          rw [run_convert_bytes_string w s d e _ n c' hs he hd, run_bytesToString w ⟨b, o, none⟩ n c' _ hrun, push_bytes, stOf_den]
          simp
    · cases h
  · rename_i e hs hd
    split at h
    · rename_i he
      cases h
      obtain rfl := den_sliceNil hx
      refine ⟨ρ, w, .string .empty, Env.Le.refl ρ, ?_, rfl, hr⟩
      rw [run_convert_bytes_string w s d e none 0 0 hs he hd]
      rfl
    · cases h
  · rename_i t l off hs hd
    split at h
    · rename_i o vals e rw i ho hc hi
      cases hq : (Nat.blt o vals.length && !Nat.beq i.size 0) with
      | false => rw [hq] at h; cases h
      | true =>
        rw [hq] at h; simp only [cond_true, Option.some.injEq, Prod.mk.injEq] at h
        obtain ⟨rfl, rfl, rfl⟩ := h
        simp only [Bool.and_eq_true] at hq
        have hlt := nat_blt_lt hq.1
        have hz : i.size ≠ 0 := fun e => by rw [e] at hq; simp at hq
        obtain ⟨b, o', rfl, hN, hoff⟩ := den_ptr hx
        rw [litNat_den ho] at hoff
        obtain rfl := nat_of_some hoff
        obtain ⟨xs, c, fr, hg, hxs, hp, ht, _⟩ := hr.cells hc hN
        have hsz : c.size = vals.length := ht
        have hsh := shape_of hg
        refine ⟨ρ, w, _, Env.Le.refl ρ, ?_, hx, hr⟩
        have hsa := seenAt_run (P := P) (a := ⟨b, o, none⟩) hsh
        simp only [convert, Sem.run_bind, run_und hs, run_und hd, Result.andThen_ok, Conv.unsafePointer, hsa, cellsIn, run_shape, hsh, Sem.run_pure, run_size hi]
        simp [hz, hsz]
        intro hle
        omega
    · cases h
  · rename_i u l off hs hd
    split at h
    · rename_i o vals e rw i ho hc hi
      cases hq : (liesAt P P.depth e (vals.length / P.cellsOf e) o u 1 && !Nat.beq i.size 0) with
      | false => rw [hq] at h; cases h
      | true =>
        rw [hq] at h; simp only [cond_true, Option.some.injEq, Prod.mk.injEq] at h
        obtain ⟨rfl, rfl, rfl⟩ := h
        simp only [Bool.and_eq_true] at hq
        obtain ⟨b, o', rfl, hN, hoff⟩ := den_ptr hx
        rw [litNat_den ho] at hoff
        obtain rfl := nat_of_some hoff
        obtain ⟨xs, c, fr, hg, hxs, hp, ht, _⟩ := hr.cells hc hN
        have hsz : c.size = vals.length := ht
        have hsh := shape_of hg
        refine ⟨ρ, w, _, Env.Le.refl ρ, ?_, hx, hr⟩
        have hsa := seenAt_run (P := P) (a := ⟨b, o, none⟩) hsh
        have hva : (variablesAt ⟨b, o, none⟩ u 1).run P w = .ok true w := by
          simp only [variablesAt, Sem.run_bind, run_program, Result.andThen_ok, run_shape, hsh, hsz, hq.1, Sem.run_pure]
        simp only [convert, Sem.run_bind, run_und hs, run_und hd, Result.andThen_ok, Conv.unsafePointer, hsa, run_size hi, hva]
        simp
    · cases h
  · cases h

-- TEXTS THAT SHARE MEMORY
def aUSD (x : AVal) (H : Heap) : Option AVal :=
  match x with
  | .sliceNil => some .ptrNil
  | .slice l off _ (.lit (.ofNat (_ + 1))) => some (.ptr l off)
  | .slice l off _ (.nv j) => match getCells H l with
    | some (_ :: _, _, some (i, _), _) => cond (Nat.beq i j) (some (.ptr l off)) none
    | _ => none
  | _ => none
theorem aUSD_ok {x v : AVal} {xv : Value} {tys : Array TypeId} {ty : TypeId} (h : aUSD x H = some v) (hx : x.den ρ = some xv) (hr : HRel β ρ H nl w) :
    ∃ y, v.den ρ = some y ∧ (Builtin.unsafeSliceData_ tys ty #[xv]).run P w = .ok y w := by
  unfold aUSD at h
  split at h
  · cases h
    obtain rfl := den_sliceNil hx
    exact ⟨.pointer none, rfl, Lib.run_unsafeSliceData_nil (P := P) (w := w) tys ty 0 0⟩
  · rename_i l off len c
    cases h
    obtain ⟨b, o, n, c', rfl, hN, hoff, hlen, hcap⟩ := den_slice hx
    obtain rfl := nat_of_some' hcap
    refine ⟨.pointer (some ⟨b, o, none⟩), ?_, Lib.run_unsafeSliceData_row (P := P) (w := w) tys ty ⟨b, o, none⟩ n (c + 1) (by omega)⟩
    have : natOf (off.den ρ) = some o := by rw [hoff]; rfl
    simp only [AVal.den, hN, this]
  · rename_i l off len j
    split at h
    · rename_i v0 vr e i sz rw hc
      cases hb : Nat.beq i j with
      | false => rw [hb] at h; cases h
      | true =>
        rw [hb] at h; simp only [cond_true, Option.some.injEq] at h; subst h
        have hij := Nat.eq_of_beq_eq_true hb
        subst hij
        obtain ⟨b, o, n, c', rfl, hN, hoff, hlen, hcap⟩ := den_slice hx
        obtain ⟨xs, c, fr, hg, hxs, hp, ht, _⟩ := hr.cells hc hN
        obtain ⟨t1, N0, t2, t3⟩ := ht
        have hc' : c' = N0 := by
          simp only [IT.den, t2, Option.map_some, Option.some.injEq] at hcap
          exact (Int.ofNat.inj hcap).symm
        have hne : c' ≠ 0 := by
          intro e
          rw [← hc', e] at t3
          simp at t3 t1
          rw [t3] at t1
          simp at t1
        refine ⟨.pointer (some ⟨b, o, none⟩), ?_, Lib.run_unsafeSliceData_row (P := P) (w := w) tys ty ⟨b, o, none⟩ n c' hne⟩
        have : natOf (off.den ρ) = some o := by rw [hoff]; rfl
        simp only [AVal.den, hN, this]
    · cases h
  · cases h

def aUStr (P : Program) (tys : Array TypeId) (p len : AVal) (H : Heap) : Option (AVal × Heap) :=
  match tys.toList, p, len with
  | [_, _], .ptrNil, .int .i64 (.lit (.ofNat 0)) => some (.str (.lit []), H)
  | [pt, _], .ptr l (.lit (.ofNat 0)), .int .i64 (.lit (.ofNat (n + 1))) => match P.underlying pt, getCells H l with
    | some (.pointer e), some (vals, e', t, true) => cond (Nat.beq e e' && Nat.beq (P.cellsOf e) 1 && Nat.ble (n + 1) vals.length && Nat.ble (n + 1) 1000000000) (match bytesOfA (vals.take (n + 1)) with
      | some ns => cond (ns.all fun n => iEq n (.ofNat (UInt8.ofNat n.toNat).toNat)) (some (.str (.lit (ns.map fun n => UInt8.ofNat n.toNat)), H.set l ⟨.cells vals e' t, false⟩)) none
      | none => none) none
    | _, _ => none
  | _, _, _ => none
theorem aUStr_ok {tys : Array TypeId} {ty : TypeId} {p len v : AVal} {H' : Heap} {pv lv : Value} (h : aUStr P tys p len H = some (v, H')) (hp : p.den ρ = some pv) (hl : len.den ρ = some lv) (hr : HRel β ρ H nl w) :
    VOk P β ρ w (Builtin.unsafeString_ tys ty #[pv, lv]) v H' nl := by
  unfold aUStr at h
  split at h
  · rename_i pt it htys
    cases h
    obtain rfl := den_ptrNil hp
    obtain ⟨m, rfl, hm⟩ := den_int hl
    simp only [IT.den, Option.some.injEq] at hm
    subst hm
    have ht : tys = #[pt, it] := by apply Array.toList_inj.1; simp [htys]
    subst ht
    exact ⟨ρ, w, .string .empty, Env.Le.refl ρ, Lib.run_unsafeString_none (P := P) (w := w) pt it ty none, rfl, hr⟩
  · rename_i pt it l n htys
    split at h
    · rename_i e vals e' t hu hc
      cases hq : (Nat.beq e e' && Nat.beq (P.cellsOf e) 1 && Nat.ble (n + 1) vals.length && Nat.ble (n + 1) 1000000000) with
      | false => rw [hq] at h; cases h
      | true =>
        rw [hq] at h; simp only [cond_true] at h
        simp only [Bool.and_eq_true] at hq
        obtain ⟨⟨⟨q1, q2⟩, q3⟩, q4⟩ := hq
        have q1 := Nat.eq_of_beq_eq_true q1
        have q2 := Nat.eq_of_beq_eq_true q2
        have q3 := Nat.le_of_ble_eq_true q3
        have q4 := Nat.le_of_ble_eq_true q4
        subst q1
        split at h
        · rename_i ns hns
          cases ha : (ns.all fun n => iEq n (.ofNat (UInt8.ofNat n.toNat).toNat)) with
          | false => rw [ha] at h; cases h
          | true =>
            rw [ha] at h; simp only [cond_true, Option.some.injEq, Prod.mk.injEq] at h
            obtain ⟨rfl, rfl⟩ := h
            obtain ⟨b, o', rfl, hN, hoff⟩ := den_ptr hp
            obtain rfl := nat_of_some' hoff
            obtain ⟨m, rfl, hm⟩ := den_int hl
            simp only [IT.den, Option.some.injEq] at hm
            subst hm
            obtain ⟨xs, c, fr, hg, hxs, hpx, htl, hfr⟩ := hr.cells hc hN
            have hxl := AVal.denL_length hxs
            have hxc : xs.length ≤ c.size := by simpa using hpx.length_le
            have hbs := bytesOfA_ok hns (AVal.denL_take (n + 1) hxs)
            have hnl : ns.length = n + 1 := by
              have := congrArg List.length hbs
              simp at this
              omega
            have hcell : ∀ j x, (ns.map fun n => UInt8.ofNat n.toNat)[j]? = some x → w.cell? ((⟨b, 0, none⟩ : Addr).add j) = some (.int .u8 x.toNat) := by
              intro j x hj
              rw [addr_add, Nat.zero_add, cell_of w hg]
              obtain ⟨q, hq1, hq2⟩ := Option.map_eq_some_iff.1 (by rw [← List.getElem?_map]; exact hj)
              have hq3 := List.all_eq_true.1 ha q (List.mem_of_getElem? hq1)
              rw [iEq_eq] at hq3
              have hq4 : q = ((UInt8.ofNat q.toNat).toNat : Int) := by simpa using hq3
              have hjn : j < n + 1 := by have := (List.getElem?_eq_some_iff.1 hq1).1; omega
              have hx1 : xs[j]? = some (.int .u8 q) := by
                have := congrArg (fun l => l[j]?) hbs
                simp only [List.getElem?_map, hq1, Option.map_some] at this
                rw [List.getElem?_take_of_lt hjn] at this
                exact this
              rw [prefix_get hpx hx1, ← hq2, hq4.symm]
            have ht : tys = #[pt, it] := by apply Array.toList_inj.1; simp [htys]
            subst ht
            have hlen2 : (ns.map fun n => UInt8.ofNat n.toNat).length = n + 1 := by simp [hnl]
            have hrun := Lib.run_unsafeString_row (P := P) (w := w) pt it ty e hu q2 b c.size (shape_of hg) (ns.map fun n => UInt8.ofNat n.toNat) (by intro e0; rw [e0] at hlen2; simp at hlen2) (by omega) (by omega) hcell
            rw [hlen2] at hrun
            have hb : b < w.heap.size := (Array.getElem?_eq_some_iff.1 hg).1
            obtain ⟨fr2, hfz⟩ : ∃ fr2, (w.freeze ⟨b, 0, none⟩ (n + 1)).heap = w.heap.setIfInBounds b (.cells c e fr2) := by
              refine ⟨if fr.1 == fr.2 then (0, 0 + (n + 1)) else (min fr.1 0, max fr.2 (0 + (n + 1))), ?_⟩
              simp only [World.freeze, if_neg (show ¬ (n + 1 = 0) by omega)]
              apply Array.ext_getElem?
              intro i
              rw [Array.getElem?_modify, Array.getElem?_setIfInBounds]
              by_cases hi : b = i
              · subst hi
                have := (Array.getElem?_eq_some_iff.1 hg).2
                simp [hb, this]
              · simp [hi]
            refine ⟨ρ, _, _, Env.Le.refl ρ, hrun, rfl, ?_⟩
            refine hr.write (k' := ⟨.cells vals e t, false⟩) (getCells_some hc) rfl hN (o' := .cells c e fr2) ⟨xs, c, fr2, rfl, hxs, hpx, htl, (fun e => by cases e)⟩ hfz ?_ ?_ ?_
            · simp only [World.freeze]; split <;> rfl
            · simp only [World.freeze]; split <;> rfl
            · simp only [World.freeze]; split <;> rfl
        · cases h
    · cases h
  · cases h

-- ROWS OF BYTES THAT ARE TEXTS
def aUSDE (x : AVal) (H : Heap) : Option (AVal × List BT) :=
  match aUSD x H with
  | some v => some (v, [])
  | none => match x with
    | .slice l off len (.nv j) => match H.get l with
      | some ⟨.arr _ ks _ an (.lit (.ofNat 0)) (some (.nv i)), _⟩ => cond (Nat.beq i j && IT.beq len an && Nat.blt 0 ks.length) (some (.ptr l off, [.cmp .geq len (.lit 1)])) none
      | _ => none
    | _ => none
theorem aUSDE_ok {x v : AVal} {xv : Value} {tys : Array TypeId} {ty : TypeId} {mu : List BT} (h : aUSDE x H = some (v, mu)) (hm : ∀ c ∈ mu, c.den ρ = some true) (hx : x.den ρ = some xv) (hr : HRel β ρ H nl w) :
    ∃ y, v.den ρ = some y ∧ (Builtin.unsafeSliceData_ tys ty #[xv]).run P w = .ok y w := by
  unfold aUSDE at h
  split at h
  · rename_i u hu
    cases h
    exact aUSD_ok hu hx hr
  · split at h
    rotate_left
    · cases h
    rename_i l off len j _
    split at h
    rotate_left
    · cases h
    rename_i t ks e an i rw hg
    cases hq : (Nat.beq i j && IT.beq len an && Nat.blt 0 ks.length) with
    | false => rw [hq] at h; cases h
    | true =>
    rw [hq] at h; simp only [cond_true, Option.some.injEq, Prod.mk.injEq] at h
    obtain ⟨rfl, rfl⟩ := h
    simp only [Bool.and_eq_true] at hq
    obtain ⟨⟨q1, q2⟩, q3⟩ := hq
    have q1 := Nat.eq_of_beq_eq_true q1
    have q2 := IT.beq_eq q2
    have q3 := nat_blt_lt q3
    subst q1; subst q2
    obtain ⟨b, o, n, c', rfl, hN, hoff, hlen, hcap⟩ := den_slice hx
    obtain ⟨b', ob, hb', hob, xs, c0, fr, el, m', st, rfl, hel, hd, hst, ⟨hstc, hp⟩, hn', hty, hroom, hf⟩ := hr.blk l _ hg
    rw [hN] at hb'; cases hb'
    obtain rfl : st = 0 := by have := Option.some.inj hst; exact (Int.ofNat.inj this).symm
    obtain ⟨N0, hN0, hroom⟩ := hroom
    have hc' : c' = N0 := by
      have := hN0.symm.trans hcap; exact (Int.ofNat.inj (Option.some.inj this)).symm
    subst hc'
    have hmm : m' = n := by have := hn'.symm.trans hlen; exact Int.ofNat.inj (Option.some.inj this)
    subst hmm
    have m1 := hm _ List.mem_cons_self
    simp only [BT.den, IT.den, hlen, intCmp, Option.some.injEq, decide_eq_true_eq, Int.ofNat_eq_natCast] at m1
    have hne : c' ≠ 0 := by
      intro e
      subst e
      have h1 := hp.length_le
      rw [hty.1] at h1
      have h2 : ks.length ≤ m' * ks.length := Nat.le_mul_of_pos_left _ (by omega)
      rw [Nat.sub_zero, Nat.zero_mul] at hroom
      simp at h1
      omega
    refine ⟨.pointer (some ⟨b, o, none⟩), ?_, Lib.run_unsafeSliceData_row (P := P) (w := w) tys ty ⟨b, o, none⟩ m' c' hne⟩
    have : natOf (off.den ρ) = some o := by rw [hoff]; rfl
    simp only [AVal.den, hN, this]
def aUStrE (P : Program) (tys : Array TypeId) (p len : AVal) (H : Heap) : Option (AVal × Heap × List BT) :=
  match aUStr P tys p len H with
  | some q => some (q.1, q.2, [])
  | none => match tys.toList, p, len with
    | [pt, _], .ptr l (.lit (.ofNat 0)), .int .i64 n => match P.underlying pt, H.get l with
      | some (.pointer e), some ⟨.arr t ks e' an (.lit (.ofNat 0)) cp, true⟩ => match t.strT with
        | some u => cond (Nat.beq e e' && Nat.beq (P.cellsOf e) 1 && IT.beq n an && decide (ks = [.u8])) (some (.str u, H.set l ⟨.arr t ks e' an (.lit (.ofNat 0)) cp, false⟩, [.cmp .geq n (.lit 1), .cmp .leq n (.lit 1000000000000)])) none
        | none => none
      | _, _ => none
    | _, _, _ => none
theorem freeze_heap {b : Nat} {c : Array Value} {e : TypeId} {fr : Nat × Nat} (hg : w.heap[b]? = some (.cells c e fr)) (n : Nat) (hn : n ≠ 0) : ∃ fr2, (w.freeze ⟨b, 0, none⟩ n).heap = w.heap.setIfInBounds b (.cells c e fr2) ∧ (w.freeze ⟨b, 0, none⟩ n).tape = w.tape ∧ (w.freeze ⟨b, 0, none⟩ n).os = w.os ∧ (w.freeze ⟨b, 0, none⟩ n).output = w.output := by
  have hb : b < w.heap.size := (Array.getElem?_eq_some_iff.1 hg).1
  refine ⟨if fr.1 == fr.2 then (0, 0 + n) else (min fr.1 0, max fr.2 (0 + n)), ?_, ?_, ?_, ?_⟩
  · simp only [World.freeze, if_neg hn]
    apply Array.ext_getElem?
    intro i
    rw [Array.getElem?_modify, Array.getElem?_setIfInBounds]
    by_cases hi : b = i
    · subst hi
      have := (Array.getElem?_eq_some_iff.1 hg).2
      simp [hb, this]
    · simp [hi]
  · simp only [World.freeze]; split <;> rfl
  · simp only [World.freeze]; split <;> rfl
  · simp only [World.freeze]; split <;> rfl
theorem aUStrE_ok {tys : Array TypeId} {ty : TypeId} {p len v : AVal} {H' : Heap} {pv lv : Value} {mu : List BT} (h : aUStrE P tys p len H = some (v, H', mu)) (hm : ∀ c ∈ mu, c.den ρ = some true) (hp : p.den ρ = some pv) (hl : len.den ρ = some lv) (hr : HRel β ρ H nl w) :
    VOk P β ρ w (Builtin.unsafeString_ tys ty #[pv, lv]) v H' nl := by
  unfold aUStrE at h
  split at h
  · rename_i q hq
    cases h
    exact aUStr_ok hq hp hl hr
  · split at h
    rotate_left
    · cases h
    rename_i pt it l n htys _
    split at h
    rotate_left
    · cases h
    rename_i e t ks e' an cp hu hg
    split at h
    rotate_left
    · cases h
    rename_i ut hut
    cases hq : (Nat.beq e e' && Nat.beq (P.cellsOf e) 1 && IT.beq n an && decide (ks = [.u8])) with
    | false => rw [hq] at h; cases h
    | true =>
    rw [hq] at h; simp only [cond_true, Option.some.injEq, Prod.mk.injEq] at h
    obtain ⟨rfl, rfl, rfl⟩ := h
    simp only [Bool.and_eq_true, decide_eq_true_eq] at hq
    obtain ⟨⟨⟨q1, q2⟩, q3⟩, rfl⟩ := hq
    have q1 := Nat.eq_of_beq_eq_true q1
    have q2 := Nat.eq_of_beq_eq_true q2
    have q3 := IT.beq_eq q3
    subst q1; subst q3
    obtain ⟨b, o', rfl, hN, hoff⟩ := den_ptr hp
    obtain rfl := nat_of_some' hoff
    obtain ⟨m, rfl, hmn⟩ := den_int hl
    obtain ⟨b', ob, hb', hob, xs, c0, fr, el, m', st, rfl, hel, hd, hst, ⟨hstc, hpx⟩, hn', hty, hroom, hf⟩ := hr.blk l _ hg
    rw [hN] at hb'; cases hb'
    obtain rfl : st = 0 := by have := Option.some.inj hst; exact (Int.ofNat.inj this).symm
    have hel := (hel rfl).symm
    subst hel
    rw [List.drop_zero] at hpx
    have hmm : m = (m' : Int) := Option.some.inj (hmn.symm.trans hn')
    subst hmm
    have m1 := hm _ List.mem_cons_self
    have m2 := hm _ (List.mem_cons_of_mem _ List.mem_cons_self)
    simp only [BT.den, IT.den, hn', intCmp, Option.some.injEq, decide_eq_true_eq] at m1 m2
    have hxs : xs = bytesV (ut.den ρ) := strT_ok hut hd
    have hul : (ut.den ρ).size = m' := by
      have := hty.1; rw [hxs, bytesV_length] at this; simpa using this
    have hll : (ut.den ρ).data.toList.length = m' := by rw [← hul]; simp
    have hxl : xs.length = m' := by have := hty.1; simpa using this
    have hxc : xs.length ≤ c0.size := by simpa using hpx.length_le
    have hcell : ∀ j x, (ut.den ρ).data.toList[j]? = some x → w.cell? ((⟨b, 0, none⟩ : Addr).add j) = some (.int .u8 x.toNat) := by
      intro j x hj
      rw [addr_add, Nat.zero_add, cell_of w hob]
      refine prefix_get hpx ?_
      rw [hxs, bytesV, List.getElem?_map, hj]; rfl
    have ht : tys = #[pt, it] := by apply Array.toList_inj.1; simp [htys]
    subst ht
    have hrun := Lib.run_unsafeString_row (P := P) (w := w) pt it ty e hu q2 b c0.size (shape_of hob) (ut.den ρ).data.toList (by intro e0; rw [e0] at hll; simp at hll; omega) (by omega) (by omega) hcell
    rw [hll] at hrun
    obtain ⟨fr2, hfz, h1, h2, h3⟩ := freeze_heap hob m' (by omega)
    refine ⟨ρ, _, _, Env.Le.refl ρ, hrun, by simp [AVal.den], ?_⟩
    refine hr.write (k' := ⟨.arr t [.u8] e n (.lit (.ofNat 0)) cp, false⟩) hg rfl hN (o' := .cells c0 e fr2) ⟨xs, c0, fr2, e, m', 0, rfl, (fun e => by cases e), hd, hst, ⟨hstc, by rw [List.drop_zero]; exact hpx⟩, hn', hty, hroom, (fun e => by cases e)⟩ hfz h1 h2 h3

-- MAKE
def aMakeSlice (P : Program) (t : TypeId) (len cap : AVal) (H : Heap) (nl : Nat) : Option (AVal × Heap) :=
  match P.underlying t, litOf len, litOf cap with
  | some (.slice e), some n, some c => match P.info? e, zeroA P e with
    | some ei, some z => match z.cells? with
      | some zc => cond (Nat.beq zc.length ei.size && Nat.ble n c && Nat.ble c 1000000 && Nat.ble ei.bytes 100000 && Nat.blt 0 ei.size)
          (some (.slice nl (.lit 0) (.lit (.ofNat n)) (.lit (.ofNat c)), H.set nl ⟨.cells (zeroRow zc c) e none, true⟩)) none
      | none => none
    | _, _ => none
  | _, _, _ => none
theorem aMakeSlice_ok {t : TypeId} {len cap u : AVal} {H' : Heap} {lv cv : Value} (h : aMakeSlice P t len cap H nl = some (u, H')) (hl : len.den ρ = some lv) (hc : cap.den ρ = some cv) (hr : HRel β ρ H nl w) :
    VOk P β ρ w (Instr.makeSlice t lv cv) u H' (nl + 1) := by
  unfold aMakeSlice at h
  split at h
  · rename_i e n c hu hn hcc
    split at h
    · rename_i ei z hei hz
      split at h
      · rename_i zc hzc
        cases hq : (Nat.beq zc.length ei.size && Nat.ble n c && Nat.ble c 1000000 && Nat.ble ei.bytes 100000 && Nat.blt 0 ei.size) with
        | false => rw [hq] at h; cases h
        | true =>
          rw [hq] at h; simp only [cond_true, Option.some.injEq, Prod.mk.injEq] at h
          obtain ⟨rfl, rfl⟩ := h
          simp only [Bool.and_eq_true] at hq
          obtain ⟨⟨⟨⟨q1, q2⟩, q3⟩, q4⟩, q5⟩ := hq
          have q1 := Nat.eq_of_beq_eq_true q1
          have q2 := Nat.le_of_ble_eq_true q2
          have q3 := Nat.le_of_ble_eq_true q3
          have q4 := Nat.le_of_ble_eq_true q4
          have q5 := nat_blt_lt q5
          obtain ⟨kl, rfl⟩ := litOf_ok hn hl
          obtain ⟨kc, rfl⟩ := litOf_ok hcc hc
          obtain ⟨zv, hz1, hz2⟩ := zeroA_ok hz
          have hcs := AVal.cells?_den hzc (hz2 ρ)
          have hzl := AVal.denL_length hcs
          obtain ⟨g1, g2⟩ := newRow_ok (P := P) (e := e) (zeroRow_den hcs c) hr
          refine ⟨_, _, .slice (some ⟨w.heap.size, 0, none⟩) n c, Env.le_put (hr.fresh nl (Nat.le_refl _)), ?_, ?_, g2⟩
          · have wl : IntKind.i64.wrap (n : Int) = n := wrap_in .i64 n (by simp only [lo]; omega) (by simp only [hi]; omega)
            have wc : IntKind.i64.wrap (c : Int) = c := wrap_in .i64 c (by simp only [lo]; omega) (by simp only [hi]; omega)
            have hsz : zv.cells.size = ei.size := by simp at hzl; omega
            have hb : ¬ ((ei.bytes : Int) * (c : Int) > 2 ^ 48) := by
              have := Nat.mul_le_mul q4 q3
              have h2 : ((ei.bytes * c : Nat) : Int) ≤ ((100000 * 1000000 : Nat) : Int) := Int.ofNat_le.2 this
              rw [Int.natCast_mul] at h2
              omega
            have hrow : (Array.range (c * ei.size)).map (zv.cells[· % zv.cells.size]!) = (List.replicate c zv.cells.toList).flatten.toArray := by
              apply Array.toList_inj.1
              have := zeros_eq zv.cells.toList c
              simp only [Array.toArray_toList, Array.length_toList] at this
              rw [← this, ← hsz]
              simp
            have d1 : (decide ((c : Int) < 0) || decide ((ei.bytes : Int) * (c : Int) > 2 ^ 48)) = false := by simp only [hb, decide_false, Bool.or_false, decide_eq_false_iff_not]; omega
            have d2 : ((decide ((c : Int) < 0) || decide ((ei.bytes : Int) * (c : Int) > 2 ^ 48)) || decide ((n : Int) < 0) || decide ((n : Int) > (c : Int))) = false := by
              rw [d1]; simp only [Bool.false_or, Bool.or_eq_false_iff, decide_eq_false_iff_not]; omega
            simp only [Instr.makeSlice, Sem.run_bind, run_und hu, Result.andThen_ok, asInt, asIntOf, Sem.run_pure, run_info hei, wl, wc, d2, Bool.false_eq_true, if_false, run_askRoom, run_size hei, Int.toNat_natCast]
            by_cases n0 : c * ei.size = 0
            · have hc0 : c = 0 := by
                rcases Nat.mul_eq_zero.1 n0 with h0 | h0
                · exact h0
                · omega
              subst hc0
              simp only [n0, if_true, Sem.run_bind, Sem.run_pure, Result.andThen_ok]
              have e0 : (Array.range 0).map (fun x => (#[] : Array Value)[x % (#[] : Array Value).size]!) = (List.replicate 0 zv.cells.toList).flatten.toArray := by simp
              rw [e0, g1]; rfl
            · simp only [n0, if_false, Sem.run_bind, hz1, Result.andThen_ok, Sem.run_pure, hrow, g1]
          · have e0 : natOf ((IT.lit 0).den (ρ.put nl w.heap.size)) = some 0 := rfl
            have e1 : natOf ((IT.lit (Int.ofNat n)).den (ρ.put nl w.heap.size)) = some n := rfl
            have e2 : natOf ((IT.lit (Int.ofNat c)).den (ρ.put nl w.heap.size)) = some c := rfl
            simp only [AVal.den, Env.put_same, e0, e1, e2]
      · cases h
    · cases h
  · cases h

/-- A row of zeros whose length is a number that is not known yet. -/
def aMakeE (P : Program) (t : TypeId) (len cap : AVal) (H : Heap) (nl : Nat) : Option (AVal × Heap × List BT) :=
  match P.underlying t, len, cap with
  | some (.slice e), .int .i64 n, .int .i64 c => match P.info? e, zeroA P e with
    | some ei, some (.int k (.lit 0)) => cond (Nat.beq ei.size 1 && Nat.ble ei.bytes 100000 && IT.beq n c)
        (some (.slice nl (.lit 0) n n, H.set nl ⟨.arr (.code [k] (.un 19 n (.lit 0))) [k] e n (.lit 0) (some n), true⟩, [.cmp .geq n (.lit 1), .cmp .leq n (.lit 1000000)])) none
    | _, _ => none
  | _, _, _ => none
theorem rowOf_rep (k : IntKind) (n : Nat) : rowOf [k] (List.replicate n 0) = List.replicate n (.int k 0) := by
  apply List.ext_getElem?
  intro i
  rw [rowOf_get, List.getElem?_replicate, List.getElem?_replicate]
  have : i % [k].length = 0 := Nat.mod_one i
  rw [this]
  split <;> rfl
theorem aMakeE_ok {t : TypeId} {len cap u : AVal} {H' : Heap} {lv cv : Value} {mu : List BT} (h : aMakeE P t len cap H nl = some (u, H', mu)) (hm : ∀ c ∈ mu, c.den ρ = some true) (hl : len.den ρ = some lv) (hc : cap.den ρ = some cv) (hr : HRel β ρ H nl w) :
    VOk P β ρ w (Instr.makeSlice t lv cv) u H' (nl + 1) := by
  unfold aMakeE at h
  split at h
  · rename_i e n c hu
    split at h
    · rename_i ei k hei hz
      cases hq : (Nat.beq ei.size 1 && Nat.ble ei.bytes 100000 && IT.beq n c) with
      | false => rw [hq] at h; cases h
      | true =>
        rw [hq] at h; simp only [cond_true, Option.some.injEq, Prod.mk.injEq] at h
        obtain ⟨rfl, rfl, rfl⟩ := h
        simp only [Bool.and_eq_true] at hq
        obtain ⟨⟨q1, q4⟩, q5⟩ := hq
        have q1 := Nat.eq_of_beq_eq_true q1
        have q4 := Nat.le_of_ble_eq_true q4
        obtain rfl := IT.beq_eq q5
        obtain ⟨z, rfl, hn⟩ := den_int hl
        obtain ⟨z', rfl, hn'⟩ := den_int hc
        obtain rfl : z = z' := Option.some.inj (hn.symm.trans hn')
        have m1 := hm _ List.mem_cons_self
        have m2 := hm _ (List.mem_cons_of_mem _ List.mem_cons_self)
        simp only [BT.den, IT.den, hn, intCmp, Option.some.injEq, decide_eq_true_eq] at m1 m2
        obtain ⟨N, rfl⟩ := Int.eq_ofNat_of_zero_le (show 0 ≤ z by omega)
        obtain ⟨zv, hz1, hz2⟩ := zeroA_ok hz
        obtain rfl : zv = .int k 0 := (Option.some.inj (hz2 ρ)).symm
        have hrow : (Array.range (N * ei.size)).map ((Value.int k 0).cells[· % (Value.int k 0).cells.size]!) = (List.replicate N (Value.int k 0)).toArray := by
          apply Array.toList_inj.1
          have h0 : (Value.int k 0).cells = [Value.int k 0].toArray := rfl
          have := zeros_eq [Value.int k 0] N
          have hf : ∀ m : Nat, (List.replicate m [Value.int k 0]).flatten = List.replicate m (Value.int k 0) := fun m => by
            induction m with
            | zero => rfl
            | succ m ih => rw [List.replicate_succ, List.flatten_cons, ih]; rfl
          rw [hf] at this
          rw [h0, q1, ← this]
          simp
        have hrel : (ABlk.arr (.code [k] (.un 19 n (.lit 0))) [k] e n (.lit 0) (some n)).rel ρ true (.cells (List.replicate N (Value.int k 0)).toArray e (0, 0)) := by
          refine ⟨rowOf [k] (List.replicate N 0), _, (0, 0), e, N, 0, rfl, fun _ => rfl, ?_, rfl, ⟨Nat.zero_le _, ?_⟩, hn, rowOf_typed (by simp), ⟨N, hn, by simp⟩, fun _ => .inl (Nat.le_refl _)⟩
          · have e0 : (IT.un 19 n (.lit 0)).den ρ = some (encL (List.replicate N 0)) := by simp only [IT.den, hn]; rfl
            simp only [AT.den, e0, Option.map_some, decL_encL]
          · rw [rowOf_rep]; simp
        refine ⟨_, _, .slice (some ⟨w.heap.size, 0, none⟩) N N, Env.le_put (hr.fresh nl (Nat.le_refl _)), ?_, ?_, hr.new _ _ _ hrel⟩
        · have wl : IntKind.i64.wrap (N : Int) = N := wrap_in .i64 N (by simp only [lo]; omega) (by simp only [hi]; omega)
          have hb : ¬ ((ei.bytes : Int) * (N : Int) > 2 ^ 48) := by
            have := Nat.mul_le_mul q4 (show N ≤ 1000000 by omega)
            have h2 : ((ei.bytes * N : Nat) : Int) ≤ ((100000 * 1000000 : Nat) : Int) := Int.ofNat_le.2 this
            rw [Int.natCast_mul] at h2
            omega
          have d1 : (decide ((N : Int) < 0) || decide ((ei.bytes : Int) * (N : Int) > 2 ^ 48)) = false := by simp only [hb, decide_false, Bool.or_false, decide_eq_false_iff_not]; omega
          have d2 : ((decide ((N : Int) < 0) || decide ((ei.bytes : Int) * (N : Int) > 2 ^ 48)) || decide ((N : Int) < 0) || decide ((N : Int) > (N : Int))) = false := by
            rw [d1]; simp only [Bool.false_or, Bool.or_eq_false_iff, decide_eq_false_iff_not]; omega
          have n0 : ¬ N * ei.size = 0 := by rw [q1]; omega
          simp only [Instr.makeSlice, Sem.run_bind, run_und hu, Result.andThen_ok, asInt, asIntOf, Sem.run_pure, run_info hei, wl, d2, Bool.false_eq_true, if_false, run_askRoom, run_size hei, Int.toNat_natCast, n0, hz1, hrow]
          simp [newRow]
        · have hle := Env.le_put (b := w.heap.size) (hr.fresh nl (Nat.le_refl _))
          have e0 : natOf ((IT.lit 0).den (ρ.put nl w.heap.size)) = some 0 := rfl
          have e1 : natOf (n.den (ρ.put nl w.heap.size)) = some N := by rw [IT.den_mono hle hn]; rfl
          simp only [AVal.den, Env.put_same, e0, e1]
    · cases h
  · cases h

/-- The kinds of a zero value that is numbers alone. -/
def zk1 : List AVal → Option (List IntKind)
  | [] => some []
  | .int k (.lit 0) :: r => (zk1 r).map (k :: ·)
  | _ => none
theorem zk1_ok {ρ : Env} : ∀ {vs : List AVal} {ks : List IntKind} {xs : List Value}, zk1 vs = some ks → AVal.denL ρ vs = some xs → xs = ks.map fun k => .int k 0
  | [], ks, xs, h, hx => by cases h; cases hx; rfl
  | v :: r, ks, xs, h, hx => by
    unfold zk1 at h
    split at h
    · rename_i heq; cases heq
    · rename_i k r' heq
      cases heq
      obtain ⟨l, hl, rfl⟩ := Option.map_eq_some_iff.1 h
      simp only [AVal.denL, AVal.den, IT.den, Option.map_some] at hx
      split at hx
      · rename_i x y hx1 hy
        cases hx; cases hx1
        rw [zk1_ok hl hy]; rfl
      · cases hx
    · cases h
theorem rowOf_zero (ks : List IntKind) (n : Nat) : rowOf ks (List.replicate (n * ks.length) 0) = (List.range (n * ks.length)).map fun i => (ks.map fun k => Value.int k 0).toArray[i % (ks.map fun k => Value.int k 0).toArray.size]! := by
  apply List.ext_getElem?
  intro i
  rw [rowOf_get, List.getElem?_replicate, List.getElem?_map]
  by_cases hi : i < n * ks.length
  · have hk : 0 < ks.length := by
      rcases Nat.eq_zero_or_pos ks.length with h0 | h0
      · rw [h0] at hi; omega
      · exact h0
    have h2 : i % ks.length < ks.length := Nat.mod_lt _ hk
    simp [hi, List.getD_eq_getElem?_getD, h2]
  · simp [hi]
/-- A row of zeros, of more cells an element, whose length is a number that is not known yet. -/
def aMakeZ (P : Program) (t : TypeId) (len cap : AVal) (H : Heap) (nl : Nat) : Option (AVal × Heap × List BT) :=
  match P.underlying t, len, cap with
  | some (.slice e), .int .i64 n, .int .i64 c => match P.info? e, zeroA P e with
    | some ei, some (.agg vs) => match zk1 vs with
      | some ks => cond (Nat.beq ei.size ks.length && Nat.blt 0 ks.length && Nat.ble ei.bytes 100000 && IT.beq n c)
        (some (.slice nl (.lit 0) n n, H.set nl ⟨.arr (.code ks (.un 20 n (.lit ks.length))) ks e n (.lit 0) (some n), true⟩, [.cmp .geq n (.lit 1), .cmp .leq n (.lit 1000000)])) none
      | none => none
    | _, _ => none
  | _, _, _ => none
theorem aMakeZ_ok {t : TypeId} {len cap u : AVal} {H' : Heap} {lv cv : Value} {mu : List BT} (h : aMakeZ P t len cap H nl = some (u, H', mu)) (hm : ∀ c ∈ mu, c.den ρ = some true) (hl : len.den ρ = some lv) (hc : cap.den ρ = some cv) (hr : HRel β ρ H nl w) :
    VOk P β ρ w (Instr.makeSlice t lv cv) u H' (nl + 1) := by
  unfold aMakeZ at h
  split at h
  rotate_left
  · cases h
  rename_i e n c hu
  split at h
  rotate_left
  · cases h
  rename_i ei vs hei hz
  split at h
  rotate_left
  · cases h
  rename_i ks hks
  cases hq : (Nat.beq ei.size ks.length && Nat.blt 0 ks.length && Nat.ble ei.bytes 100000 && IT.beq n c) with
  | false => rw [hq] at h; cases h
  | true =>
    rw [hq] at h; simp only [cond_true, Option.some.injEq, Prod.mk.injEq] at h
    obtain ⟨rfl, rfl, rfl⟩ := h
    simp only [Bool.and_eq_true] at hq
    obtain ⟨⟨⟨q1, q2⟩, q4⟩, q5⟩ := hq
    have q1 := Nat.eq_of_beq_eq_true q1
    have q2 := nat_blt_lt q2
    have q4 := Nat.le_of_ble_eq_true q4
    obtain rfl := IT.beq_eq q5
    obtain ⟨z, rfl, hn⟩ := den_int hl
    obtain ⟨z', rfl, hn'⟩ := den_int hc
    obtain rfl : z = z' := Option.some.inj (hn.symm.trans hn')
    have m1 := hm _ List.mem_cons_self
    have m2 := hm _ (List.mem_cons_of_mem _ List.mem_cons_self)
    simp only [BT.den, IT.den, hn, intCmp, Option.some.injEq, decide_eq_true_eq] at m1 m2
    obtain ⟨N, rfl⟩ := Int.eq_ofNat_of_zero_le (show 0 ≤ z by omega)
    obtain ⟨zv, hz1, hz2⟩ := zeroA_ok hz
    have hzc : zv.cells = (ks.map fun k => Value.int k 0).toArray := by
      have := hz2 ρ
      simp only [AVal.den] at this
      obtain ⟨xs, hxs, rfl⟩ := Option.map_eq_some_iff.1 this
      rw [zk1_ok hks hxs]; rfl
    have hrow : (Array.range (N * ei.size)).map (zv.cells[· % zv.cells.size]!) = (rowOf ks (List.replicate (N * ks.length) 0)).toArray := by
      rw [rowOf_zero, hzc, q1]
      apply Array.toList_inj.1
      simp
    have hrel : (ABlk.arr (.code ks (.un 20 n (.lit ks.length))) ks e n (.lit 0) (some n)).rel ρ true (.cells (rowOf ks (List.replicate (N * ks.length) 0)).toArray e (0, 0)) := by
      refine ⟨rowOf ks (List.replicate (N * ks.length) 0), _, (0, 0), e, N, 0, rfl, fun _ => rfl, ?_, rfl, ⟨Nat.zero_le _, ?_⟩, hn, rowOf_typed (by simp), ⟨N, hn, by simp [rowOf_length]⟩, fun _ => .inl (Nat.le_refl _)⟩
      · have e0 : (IT.un 20 n (.lit ks.length)).den ρ = some (encL (List.replicate (N * ks.length) 0)) := by simp only [IT.den, hn]; rfl
        simp only [AT.den, e0, Option.map_some, decL_encL]
      · simp
    refine ⟨_, _, .slice (some ⟨w.heap.size, 0, none⟩) N N, Env.le_put (hr.fresh nl (Nat.le_refl _)), ?_, ?_, hr.new _ _ _ hrel⟩
    · have wl : IntKind.i64.wrap (N : Int) = N := wrap_in .i64 N (by simp only [lo]; omega) (by simp only [hi]; omega)
      have hb : ¬ ((ei.bytes : Int) * (N : Int) > 2 ^ 48) := by
        have := Nat.mul_le_mul q4 (show N ≤ 1000000 by omega)
        have h2 : ((ei.bytes * N : Nat) : Int) ≤ ((100000 * 1000000 : Nat) : Int) := Int.ofNat_le.2 this
        rw [Int.natCast_mul] at h2
        omega
      have d1 : (decide ((N : Int) < 0) || decide ((ei.bytes : Int) * (N : Int) > 2 ^ 48)) = false := by simp only [hb, decide_false, Bool.or_false, decide_eq_false_iff_not]; omega
      have d2 : ((decide ((N : Int) < 0) || decide ((ei.bytes : Int) * (N : Int) > 2 ^ 48)) || decide ((N : Int) < 0) || decide ((N : Int) > (N : Int))) = false := by
        rw [d1]; simp only [Bool.false_or, Bool.or_eq_false_iff, decide_eq_false_iff_not]; omega
      have n0 : ¬ N * ei.size = 0 := by
        rw [q1]
        have := Nat.mul_le_mul (show 1 ≤ N by omega) (show 1 ≤ ks.length by omega)
        omega
      simp only [Instr.makeSlice, Sem.run_bind, run_und hu, Result.andThen_ok, asInt, asIntOf, Sem.run_pure, run_info hei, wl, d2, Bool.false_eq_true, if_false, run_askRoom, run_size hei, Int.toNat_natCast, n0, hz1, hrow]
      simp [newRow]
    · have hle := Env.le_put (b := w.heap.size) (hr.fresh nl (Nat.le_refl _))
      have e0 : natOf ((IT.lit 0).den (ρ.put nl w.heap.size)) = some 0 := rfl
      have e1 : natOf (n.den (ρ.put nl w.heap.size)) = some N := by rw [IT.den_mono hle hn]; rfl
      simp only [AVal.den, Env.put_same, e0, e1]
/-- One of the two. -/
def aMakeU (P : Program) (t : TypeId) (len cap : AVal) (H : Heap) (nl : Nat) : Option (AVal × Heap × List BT) :=
  match aMakeE P t len cap H nl with
  | some p => some p
  | none => aMakeZ P t len cap H nl
theorem aMakeU_ok {t : TypeId} {len cap u : AVal} {H' : Heap} {lv cv : Value} {mu : List BT} (h : aMakeU P t len cap H nl = some (u, H', mu)) (hm : ∀ c ∈ mu, c.den ρ = some true) (hl : len.den ρ = some lv) (hc : cap.den ρ = some cv) (hr : HRel β ρ H nl w) :
    VOk P β ρ w (Instr.makeSlice t lv cv) u H' (nl + 1) := by
  unfold aMakeU at h
  split at h
  · rename_i p hp; cases h; exact aMakeE_ok hp hm hl hc hr
  · exact aMakeZ_ok h hm hl hc hr

/-- A row of bytes that is told by a number, as a text. -/
def aConvE (P : Program) (s d : TypeId) (x : AVal) (H : Heap) : Option AVal :=
  match P.underlying s, P.underlying d, x with
  | some (.slice e), some .string, .slice l off len _ => match P.underlying e, H.get l with
    | some (.int .u8), some ⟨.arr r [.u8] _ n o _, _⟩ => match r.codeT with
      | some c => match c.toP with
        | some p => cond (IT.beq off o && IT.beq len n) (some (.str (.dec p))) none
        | none => none
      | none => none
    | _, _ => none
  | _, _, _ => none
theorem u8_list : ∀ (m : Nat) (xs : List Value), Typed [.u8] m xs → xs = (xs.map toZ).map (Value.int .u8) := by
  intro m xs h
  obtain ⟨h1, h2⟩ := h
  apply List.ext_getElem?
  intro i
  rw [List.getElem?_map, List.getElem?_map]
  by_cases hi : i < m
  · obtain ⟨z, hz⟩ := h2 i 0 .u8 hi rfl
    have hz' : xs[i]? = some (.int .u8 z) := by simpa using hz
    rw [hz']; rfl
  · have : xs[i]? = none := List.getElem?_eq_none (by simp at h1; omega)
    rw [this]; rfl
theorem aConvE_ok {s d : TypeId} {x v : AVal} {xv : Value} (h : aConvE P s d x H = some v) (hx : x.den ρ = some xv) (hr : HRel β ρ H nl w) : VOk P β ρ w (convert s d xv) v H nl := by
  unfold aConvE at h
  split at h
  rotate_left
  · cases h
  rename_i e l off len cap hs hd
  split at h
  rotate_left
  · cases h
  rename_i r el n o cp rw he hg
  split at h
  rotate_left
  · cases h
  rename_i c hcT
  split at h
  rotate_left
  · cases h
  rename_i p hp
  cases hb : (IT.beq off o && IT.beq len n) with
  | false => rw [hb] at h; cases h
  | true =>
    rw [hb] at h; cases h
    simp only [Bool.and_eq_true] at hb
    obtain rfl := IT.beq_eq hb.1
    obtain rfl := IT.beq_eq hb.2
    obtain ⟨b, o1, m, c', rfl, hN, hoff, hlen, _⟩ := den_slice hx
    obtain ⟨b', ob, hb', hob, xs, c0, fr, el', m', st, rfl, _, hdn, hst, ⟨h4, h5⟩, hn', hty, _, _⟩ := hr.blk l _ hg
    rw [hN] at hb'; cases hb'
    have e1 : m' = m := by have := hn'.symm.trans hlen; exact Int.ofNat.inj (Option.some.inj this)
    have e2 : st = o1 := by have := hst.symm.trans hoff; exact Int.ofNat.inj (Option.some.inj this)
    subst e1; subst e2
    obtain ⟨y, hy, hyx⟩ := codeT_ok hcT hdn
    have hxl : xs.length = m' := by have := hty.1; simpa using this
    have hle : st + m' ≤ c0.size := by
      have := h5.length_le
      simp only [List.length_drop, Array.length_toList] at this
      omega
    have hrun := loadCells_run (P := P) hob hle
    have he2 : (c0.toList.drop st).take m' = xs := by
      obtain ⟨q, hq⟩ := h5
      rw [← hq, ← hxl]; simp
    rw [he2, u8_list m' xs hty] at hrun
    refine ⟨ρ, w, .string ((ST.dec p).den ρ), Env.Le.refl ρ, ?_, rfl, hr⟩
    rw [run_convert_bytes_string w s d e _ m' c' hs he hd, run_bytesToString w ⟨b, st, none⟩ m' c' _ hrun, push_bytes]
    have hpy : p.den ρ = y := Option.some.inj ((IT.toP_den hp).symm.trans hy)
    have : (ST.dec p).den ρ = decS y := by show decS (p.den ρ) = _; rw [hpy]
    rw [this]
    unfold decS
    rw [hyx]
    simp

/-- A slice of three indices, of a row whose cells are known. -/
def aSlice3M (P : Program) (t : TypeId) (x : AVal) (lo : Option AVal) (hi mx : AVal) (H : Heap) : Option AVal :=
  match P.underlying t, x with
  | some (.slice e), .slice b off _ (.nv j) => match P.info? e, litNat off, getCells H b with
    | some ei, some o, some (vals, _, some (i, sz), _) => match optLit lo 0, litOf hi, litOf mx with
      | some l, some h, some m => cond (Nat.beq i j && Nat.beq sz ei.size && Nat.beq o 0 && Nat.ble l h && Nat.ble h m && Nat.blt 0 ei.size && Nat.ble (m * ei.size) vals.length)
        (some (.slice b (.lit (.ofNat (cond (Nat.beq m l) 0 (l * ei.size)))) (.lit (.ofNat (h - l))) (.lit (.ofNat (m - l))))) none
      | _, _, _ => none
    | _, _, _ => none
  | _, _ => none
theorem bounds3G {n c l h m : Nat} {lo : Option AVal} {hi mx : AVal} {lov : Option Value} {hiv mxv : Value} (hl : optLit lo 0 = some l) (hh : litOf hi = some h) (hm : litOf mx = some m) (dl : OptDen ρ lo lov) (dh : hi.den ρ = some hiv) (dm : mx.den ρ = some mxv) (h1 : l ≤ h) (h2 : h ≤ m) (h3 : m ≤ c) :
    (Instr.sliceBounds true n c lov (some hiv) (some mxv)).run P w = .ok (l, h, m) w := by
  have b1 := bound_ok (P := P) (w := w) (c := .slice3Acap) hm dm h3
  have b2 := bound_ok (P := P) (w := w) (c := .slice3B) hh dh h2
  unfold Instr.sliceBounds
  cases lo with
  | none =>
    cases lov with
    | some x => exact dl.elim
    | none => cases hl; simp [b1, b2]
  | some v =>
    cases lov with
    | none => exact dl.elim
    | some x =>
      have b3 := bound_ok (P := P) (w := w) (c := .slice3C) hl dl h1
      simp [b1, b2, b3]
theorem aSlice3M_ok {t : TypeId} {x u : AVal} {lo : Option AVal} {hi mx : AVal} {xv : Value} {lov : Option Value} {hiv mxv : Value} (h : aSlice3M P t x lo hi mx H = some u) (hx : x.den ρ = some xv) (dl : OptDen ρ lo lov) (dh : hi.den ρ = some hiv) (dm : mx.den ρ = some mxv) (hr : HRel β ρ H nl w) :
    ∃ y, u.den ρ = some y ∧ (Instr.sliceAt t xv lov (some hiv) (some mxv)).run P w = .ok y w := by
  unfold aSlice3M at h
  split at h
  rotate_left
  · cases h
  rename_i e b off len j hu
  split at h
  rotate_left
  · cases h
  rename_i ei o vals e' i sz rw hei ho hc
  split at h
  rotate_left
  · cases h
  rename_i l k m hl hh hm
  cases hq : (Nat.beq i j && Nat.beq sz ei.size && Nat.beq o 0 && Nat.ble l k && Nat.ble k m && Nat.blt 0 ei.size && Nat.ble (m * ei.size) vals.length) with
  | false => rw [hq] at h; cases h
  | true =>
    rw [hq] at h; simp only [cond_true, Option.some.injEq] at h
    subst h
    simp only [Bool.and_eq_true] at hq
    obtain ⟨⟨⟨⟨⟨⟨q1, q2⟩, q3⟩, q4⟩, q5⟩, q6⟩, q7⟩ := hq
    have q1 := Nat.eq_of_beq_eq_true q1
    have q2 := Nat.eq_of_beq_eq_true q2
    have q3 := Nat.eq_of_beq_eq_true q3
    have q4 := Nat.le_of_ble_eq_true q4
    have q5 := Nat.le_of_ble_eq_true q5
    have q6 := nat_blt_lt q6
    have q7 := Nat.le_of_ble_eq_true q7
    subst q1; subst q2; subst q3
    obtain ⟨bb, o', n', c', rfl, hN, hoff, hlen, hcap⟩ := den_slice hx
    rw [litNat_den ho] at hoff
    obtain rfl := nat_of_some hoff
    obtain ⟨xs, c0, fr, hg, hxs, hp, ht, hf⟩ := hr.cells hc hN
    have hxl := AVal.denL_length hxs
    have hxc : xs.length ≤ c0.size := by simpa using hp.length_le
    obtain ⟨t1, N0, t2, t3⟩ := ht
    have hc' : c' = N0 := by
      simp only [IT.den, t2, Option.map_some, Option.some.injEq] at hcap
      exact (Int.ofNat.inj hcap).symm
    subst hc'
    have hmc : m ≤ c' := by
      rcases Nat.lt_or_ge c' m with hlt | hge
      · have := Nat.mul_lt_mul_of_pos_right hlt q6
        omega
      · exact hge
    have hb := bounds3G (P := P) (w := w) (n := n') (c := c') hl hh hm dl dh dm q4 q5 hmc
    refine ⟨.slice (some (if m = l then ⟨bb, 0, none⟩ else ⟨bb, 0 + l * ei.size, none⟩)) (k - l) (m - l), ?_, ?_⟩
    · cases hcl : Nat.beq m l with
      | true =>
        rw [if_pos (Nat.eq_of_beq_eq_true hcl)]
        exact den_slice_mk hN rfl rfl rfl
      | false =>
        rw [if_neg (nat_beq_eq hcl), Nat.zero_add]
        exact den_slice_mk hN rfl rfl rfl
    · simp only [Instr.sliceAt, Instr.slice, Sem.run_bind, run_und hu, Result.andThen_ok, hb, run_size hei, Sem.run_pure]
      by_cases hcl : m = l
      · simp [hcl]
      · simp [hcl, addr_add]
/-- Numbers of a row are set to naught. -/
def aClear (P : Program) (tys : Array TypeId) (x : AVal) (H : Heap) : Option Heap :=
  match tys.toList with
  | t :: _ => match P.underlying t with
    | some (.slice e) => match zeroA P e, x with
      | some (.int k z), .slice l off len _ => match litNat off, litNat len with
        | some o, some n => cond (Nat.beq n 0) (some H) (aPut H l o (List.replicate n (.int k z)))
        | _, _ => none
      | _, .sliceNil => some H
      | _, _ => none
    | _ => none
  | _ => none
theorem zeroCells_int (k : IntKind) (z : Int) (n : Nat) : (Builtin.zeroCells (Value.int k z).cells n).toList = List.replicate n (Value.int k z) := by
  apply List.ext_getElem
  · simp [Builtin.zeroCells, Value.cells]
  · intro i h1 h2
    simp [Builtin.zeroCells, Value.cells, Nat.mod_one]
theorem denL_replicate {v : AVal} {x : Value} (h : v.den ρ = some x) : ∀ n, AVal.denL ρ (List.replicate n v) = some (List.replicate n x)
  | 0 => rfl
  | n + 1 => by simp only [List.replicate_succ, AVal.denL, h, denL_replicate h n]
theorem aClear_ok {tys : Array TypeId} {ty : TypeId} {x : AVal} {xv : Value} {H' : Heap} (h : aClear P tys x H = some H') (hx : x.den ρ = some xv) (hr : HRel β ρ H nl w) :
    ∃ w', (Builtin.clear_ tys ty #[xv]).run P w = .ok (.tuple #[]) w' ∧ HRel β ρ H' nl w' := by
  unfold aClear at h
  split at h
  rotate_left
  · cases h
  rename_i t r htys
  have ht : tys[0]? = some t := by
    have : tys.toList[0]? = some t := by rw [htys]; rfl
    simpa using this
  split at h
  rotate_left
  · cases h
  rename_i e hu
  split at h
  · rename_i k z l off len cap hz
    split at h
    rotate_left
    · cases h
    rename_i o n ho hn
    obtain ⟨bb, o', n', c', rfl, hN, hoff, hlen, hcap⟩ := den_slice hx
    rw [litNat_den ho] at hoff; rw [litNat_den hn] at hlen
    obtain rfl := nat_of_some hoff
    obtain rfl := nat_of_some hlen
    cases hn0 : Nat.beq n 0 with
    | true =>
      rw [hn0] at h; simp only [cond_true, Option.some.injEq] at h
      subst h
      obtain rfl := Nat.eq_of_beq_eq_true hn0
      refine ⟨w, ?_, hr⟩
      simp [Builtin.clear_, ht, run_und hu]
    | false =>
      rw [hn0] at h; simp only [cond_false] at h
      obtain ⟨zv, z1, z2⟩ := zeroA_ok hz
      obtain ⟨zz, rfl, hzz⟩ := den_int (z2 ρ)
      obtain ⟨w', hw, hr'⟩ := aPut_ok (P := P) h (denL_replicate (z2 ρ) n) hN hr
      refine ⟨w', ?_, hr'⟩
      have hne : n ≠ 0 := nat_beq_eq hn0
      obtain ⟨q, rfl⟩ : ∃ q, n = q + 1 := ⟨n - 1, by omega⟩
      rw [← zeroCells_int] at hw
      simp [Builtin.clear_, ht, run_und hu, z1, hw]
  · cases h; cases hx
    refine ⟨w, ?_, hr⟩
    simp [Builtin.clear_, ht, run_und hu]
  · cases h

def aop (P : Program) (E : Exts) (o : Op) (ev : Ev) (H : Heap) (nl : Nat) : Option ER :=
  match aPure P o ev with
  | some (v, mu) => some (.val v H nl mu)
  | none => match o with
    | .load t a => (ev a).bind fun x => match aLoad P t x H with
      | some v => some (.val v H nl [])
      | none => (aLoadE P t x H).map fun p => .val p.1 H nl p.2
    | .store t a x => match ev a, ev x with
      | some a, some x => match aStore P t a x H with
        | some H' => some (.skip H' nl)
        | none => (aStoreE P t a x H).map fun p => .skipM p.1 nl p.2
      | _, _ => none
    | .alloc e => (aAlloc P e H nl).map fun H' => .val (.ptr nl (.lit 0)) H' (nl + 1) []
    | .box e x => (ev x).bind fun v => (aNewVar e v H nl).map fun H' => .val (.ptr nl (.lit 0)) H' (nl + 1) []
    | .buildSlice t len parts => (evP ev parts.toList).bind fun l => (aBuildSlice P t len l H nl).map fun p => .val p.1 p.2 (nl + 1) []
    | .convert s d x => (ev x).bind fun v => match aConvW P s d v H nl with
      | some p => some (.val p.1 p.2.1 p.2.2 [])
      | none => (aConvE P s d v H).map fun u => .val u H nl []
    | .makeSlice t l c => match ev l, ev c with
      | some l, some c => match aMakeSlice P t l c H nl with
        | some p => some (.val p.1 p.2 (nl + 1) [])
        | none => (aMakeU P t l c H nl).map fun p => .val p.1 p.2.1 (nl + 1) p.2.2
      | _, _ => none
    | .makeMap _ none => some (.val (.map nl) (H.set nl ⟨.map [] 0, true⟩) (nl + 1) [])
    | .range t x => (ev x).bind fun v => (aRange P t v H nl).map fun p => .val p.1 p.2 (nl + 1) []
    | .next x false => (ev x).bind fun v => (aNext v H).map fun p => .val p.1 p.2 nl []
    | .entry x => (ev x).bind fun v => (aEntry v H).map fun u => .val u H nl []
    | .lookup t m k ok => match ev m, ev k with
      | some m, some k => (aLookup P t m k ok H).map fun v => .val v H nl []
      | _, _ => none
    | .mapUpdate t m k x | .insert t m k x => match ev m, ev k, ev x with
      | some m, some k, some x => (aMapPut P t m k x H).map fun H' => .skip H' nl
      | _, _, _ => none
    | .slice t x lo hi none => match ev x, optEv ev lo, optEv ev hi with
      | some x, some l, some h => (aSlice P t x l h H nl).map fun p => .val p.1 H p.2 []
      | _, _, _ => none
    | .slice t x lo (some hi) (some mx) => match ev x, optEv ev lo, ev hi, ev mx with
      | some x, some l, some h, some m => (aSlice3M P t x l h m H).map fun u => .val u H nl []
      | _, _, _, _ => none
    | .call { callee := .builtin .clear, args, argTypes } => match args.toList with
      | [x] => (ev x).bind fun v => (aClear P argTypes v H).map fun H' => .val (.tuple []) H' nl []
      | _ => none
    | .call { callee := .builtin .len, args, argTypes } => match args.toList, argTypes.toList with
      | [x], [t] => (ev x).bind fun v => (aLen P t v H).map fun u => .val u H nl []
      | _, _ => none
    | .call { callee := .builtin .unsafeSliceData, args, argTypes := _ } => match args.toList with
      | [x] => (ev x).bind fun v => (aUSDE v H).map fun p => .val p.1 H nl p.2
      | _ => none
    | .call { callee := .builtin .unsafeString, args, argTypes } => match args.toList with
      | [p, n] => match ev p, ev n with
        | some p, some n => (aUStrE P argTypes p n H).map fun q => .val q.1 q.2.1 nl q.2.2
        | _, _ => none
      | _ => none
    | .call { callee := .builtin .append, args, argTypes } => match args.toList with
      | [s, x] => match ev s, ev x with
        | some s, some x => match aAppend P argTypes s x H nl with
          | some p => some (.val p.1 p.2.1 p.2.2 [])
          | none => (aAppendE P argTypes s x H nl).map fun p => .val p.1 p.2.1 p.2.2.1 p.2.2.2
        | _, _ => none
      | _ => none
    | .call { callee := .builtin .delete, args, argTypes } => match args.toList, argTypes.toList with
      | [m, k], [t, _] => match ev m, ev k with
        | some m, some k => (aMapDel P t m k H).map fun H' => .val (.tuple []) H' nl []
        | _, _ => none
      | _, _ => none
    | .call { callee := .value g, args, argTypes := _ } => match ev g, evL ev args.toList with
      | some (.func (.func g) a b), some l => cond (hasBody P g) (some (.call g (a ++ (l ++ b)))) (match E.get g with
        | some k => (k.run (a ++ (l ++ b)) H nl).map fun p => .val p.1 p.2.1 p.2.2 []
        | none => none)
      | _, _ => none
    | .call { callee := .invoke r m, args, argTypes := _ } => match ev r, evL ev args.toList with
      | some (.iface t v), some l => match aMethod P t v m H with
        | some (g, u) => cond (hasBody P g) (some (.call g (u :: l))) none
        | none => none
      | _, _ => none
    | _ => none

def ER.Ok (P : Program) (β : Base) (ρ : Env) (w : World) (s : Sem Next) : ER → Prop
  | .val v H nl mu => (∀ c ∈ mu, c.den ρ = some true) → ∃ ρ' w' x, ρ.Le ρ' ∧ s.run P w = .ok (.value x) w' ∧ v.den ρ' = some x ∧ HRel β ρ' H nl w'
  | .skip H nl => ∃ ρ' w', ρ.Le ρ' ∧ s.run P w = .ok .skip w' ∧ HRel β ρ' H nl w'
  | .skipM H nl mu => (∀ c ∈ mu, c.den ρ = some true) → ∃ ρ' w', ρ.Le ρ' ∧ s.run P w = .ok .skip w' ∧ HRel β ρ' H nl w'
  | .call g args => hasBody P g = true ∧ ∃ xs, s.run P w = .ok (.enter g xs.toArray) w ∧ AVal.denL ρ args = some xs

theorem aop_ok (hc : NoCount P) {E : Exts} (hE : ExtOk P E) {o : Oper} {ev : Ev} {f : Operand → Value} {r : ER} (h : aop P E o.op ev H nl = some r) (he : EvOk ρ ev f) (hr : HRel β ρ H nl w) : r.Ok P β ρ w (execOp f o) := by
  unfold aop at h
  split at h
  · rename_i v mu hp
    cases h
    intro hm
    obtain ⟨x, hx, hrun⟩ := aPure_ok hp he hm
    exact ⟨ρ, w, x, Env.Le.refl ρ, hrun w, hx, hr⟩
  split at h
  · rename_i t a ho
    obtain ⟨x, hx, e⟩ := bindSome h
    split at e
    rotate_left
    · obtain ⟨p, hp, rfl⟩ := map_some e
      intro hm
      obtain ⟨y, hy, hd⟩ := aLoadE_ok (P := P) (u := p.1) (mu := p.2) hp (he a x hx) hm hr
      exact ⟨ρ, w, y, Env.Le.refl ρ, by simp [execOp, ho, hy], hd, hr⟩
    rename_i v hv
    cases e
    intro _
    obtain ⟨y, hy, hd⟩ := aLoad_ok (P := P) hv (he a x hx) hr
    exact ⟨ρ, w, y, Env.Le.refl ρ, by simp [execOp, ho, hy], hd, hr⟩
  · rename_i t a x ho
    split at h
    · rename_i av xv ha hx
      split at h
      · rename_i H' hv
        cases h
        obtain ⟨ρ', w', hle, hrun, hr'⟩ := aStore_ok (P := P) hv (he a av ha) (he x xv hx) hr
        exact ⟨ρ', w', hle, by simp [execOp, ho, hrun], hr'⟩
      · obtain ⟨⟨H', mu⟩, hv, rfl⟩ := map_some h
        intro hm
        obtain ⟨ρ', w', hle, hrun, hr'⟩ := aStoreE_ok (P := P) hv hm (he a av ha) (he x xv hx) hr
        exact ⟨ρ', w', hle, by simp [execOp, ho, hrun], hr'⟩
    · cases h
  · rename_i e ho
    obtain ⟨H', hv, rfl⟩ := map_some h
    intro _
    obtain ⟨ρ', w', x, hle, hrun, hx, hr'⟩ := aAlloc_ok (P := P) hv hr
    exact ⟨ρ', w', x, hle, by simp [execOp, ho, hrun], hx, hr'⟩
  · rename_i e x ho
    obtain ⟨v, hv, e1⟩ := bindSome h
    obtain ⟨H', hv', rfl⟩ := map_some e1
    intro _
    obtain ⟨ρ', w', y, hle, hrun, hx, hr'⟩ := aNewVar_ok (P := P) hv' (he x v hv) hr
    refine ⟨ρ', w', y, hle, ?_, hx, hr'⟩
    have : (Instr.box e (f x)).run P w = .ok y w' := hrun
    simp [execOp, ho, this]
  · rename_i t len parts ho
    obtain ⟨l, hl, e1⟩ := bindSome h
    obtain ⟨p, hp, rfl⟩ := map_some e1
    intro _
    have ea : (parts.map fun (i, x) => (i, f x)) = (parts.toList.map fun p => (p.1, f p.2)).toArray := by apply Array.toList_inj.1; simp
    obtain ⟨ρ', w', y, hle, hrun, hx, hr'⟩ := aBuildSlice_ok (P := P) (u := p.1) (H' := p.2) hp (evP_ok he hl) hr
    refine ⟨ρ', w', y, hle, ?_, hx, hr'⟩
    simp only [execOp, ho, ea, Sem.run_bind, hrun, Result.andThen_ok, Sem.run_pure]
  · rename_i s d x ho
    obtain ⟨v, hv, e1⟩ := bindSome h
    split at e1
    · rename_i p hp
      cases e1
      intro _
      obtain ⟨ρ', w', y, hle, hrun, hx, hr'⟩ := aConvW_ok (P := P) (v := p.1) (H' := p.2.1) (nl' := p.2.2) hp (he x v hv) hr
      exact ⟨ρ', w', y, hle, by simp [execOp, ho, hrun], hx, hr'⟩
    · obtain ⟨u, hu, rfl⟩ := map_some e1
      intro _
      obtain ⟨ρ', w', y, hle, hrun, hx, hr'⟩ := aConvE_ok (P := P) hu (he x v hv) hr
      exact ⟨ρ', w', y, hle, by simp [execOp, ho, hrun], hx, hr'⟩
  · rename_i t l c ho
    split at h
    · rename_i lv cv hl hcv
      split at h
      · rename_i p hp
        cases h
        intro _
        obtain ⟨ρ', w', y, hle, hrun, hx, hr'⟩ := aMakeSlice_ok (P := P) (u := p.1) (H' := p.2) hp (he l lv hl) (he c cv hcv) hr
        exact ⟨ρ', w', y, hle, by simp [execOp, ho, hrun], hx, hr'⟩
      · obtain ⟨p, hp, rfl⟩ := map_some h
        intro hm
        obtain ⟨ρ', w', y, hle, hrun, hx, hr'⟩ := aMakeU_ok (P := P) (u := p.1) (H' := p.2.1) (mu := p.2.2) hp hm (he l lv hl) (he c cv hcv) hr
        exact ⟨ρ', w', y, hle, by simp [execOp, ho, hrun], hx, hr'⟩
    · cases h
  · rename_i t ho
    cases h
    intro _
    obtain ⟨ρ', w', y, hle, hrun, hx, hr'⟩ := aMakeMap_ok (P := P) (t := t) hr
    exact ⟨ρ', w', y, hle, by simp [execOp, ho, hrun], hx, hr'⟩
  · rename_i t x ho
    obtain ⟨v, hv, e1⟩ := bindSome h
    obtain ⟨p, hp, rfl⟩ := map_some e1
    intro _
    obtain ⟨ρ', w', y, hle, hrun, hx, hr'⟩ := aRange_ok (P := P) (v := p.1) (H' := p.2) hp (he x v hv) hr
    exact ⟨ρ', w', y, hle, by simp [execOp, ho, hrun], hx, hr'⟩
  · rename_i x ho
    obtain ⟨v, hv, e1⟩ := bindSome h
    obtain ⟨p, hp, rfl⟩ := map_some e1
    intro _
    obtain ⟨ρ', w', y, hle, hrun, hx, hr'⟩ := aNext_ok (P := P) (v := p.1) (H' := p.2) (ty := o.type) hp (he x v hv) hr
    exact ⟨ρ', w', y, hle, by simp [execOp, ho, hrun], hx, hr'⟩
  · rename_i x ho
    obtain ⟨v, hv, e1⟩ := bindSome h
    obtain ⟨u, hu, rfl⟩ := map_some e1
    intro _
    obtain ⟨ρ', w', y, hle, hrun, hx, hr'⟩ := aEntry_ok (P := P) hu (he x v hv) hr
    exact ⟨ρ', w', y, hle, by simp [execOp, ho, hrun], hx, hr'⟩
  · rename_i t m k ok ho
    split at h
    · rename_i mv kv hm hk
      obtain ⟨v, hv, rfl⟩ := map_some h
      intro _
      obtain ⟨y, hd, hrun⟩ := aLookup_ok (P := P) hv (he m mv hm) (he k kv hk) hr
      exact ⟨ρ, w, y, Env.Le.refl ρ, by simp [execOp, ho, hrun], hd, hr⟩
    · cases h
  · rename_i t m k x ho
    split at h
    · rename_i mv kv xv hm hk hx
      obtain ⟨H', hv, rfl⟩ := map_some h
      obtain ⟨ρ', w', hle, hrun, hr'⟩ := aMapPut_ok (P := P) hv (he m mv hm) (he k kv hk) (he x xv hx) hr
      exact ⟨ρ', w', hle, by simp [execOp, ho, hrun], hr'⟩
    · cases h
  · rename_i t m k x ho
    split at h
    · rename_i mv kv xv hm hk hx
      obtain ⟨H', hv, rfl⟩ := map_some h
      obtain ⟨ρ', w', hle, hrun, hr'⟩ := aMapPut_ok (P := P) hv (he m mv hm) (he k kv hk) (he x xv hx) hr
      exact ⟨ρ', w', hle, by simp [execOp, ho, hrun], hr'⟩
    · cases h
  · rename_i t x lo hi ho
    split at h
    · rename_i xv l k hx hl hk
      obtain ⟨p, hp, rfl⟩ := map_some h
      intro _
      obtain ⟨ρ', w', y, hle, hrun, hd, hr'⟩ := aSlice_ok (P := P) (u := p.1) (nl' := p.2) hp (he x xv hx) (optEv_ok he hl) (optEv_ok he hk) hr
      exact ⟨ρ', w', y, hle, by simp [execOp, ho, hrun], hd, hr'⟩
    · cases h
  · rename_i t x lo hi mx ho
    split at h
    · rename_i xv l k m hx hl hk hm'
      obtain ⟨u, hu, rfl⟩ := map_some h
      intro _
      obtain ⟨y, hd, hrun⟩ := aSlice3M_ok (P := P) hu (he x xv hx) (optEv_ok he hl) (he hi k hk) (he mx m hm') hr
      exact ⟨ρ, w, y, Env.Le.refl ρ, by simp [execOp, ho, hrun], hd, hr⟩
    · cases h
  · rename_i args tys ho
    split at h
    · rename_i x hargs
      obtain ⟨v, hv, e1⟩ := bindSome h
      obtain ⟨H', hu, rfl⟩ := map_some e1
      intro _
      obtain ⟨w', hrun, hr'⟩ := aClear_ok (P := P) (ty := o.type) hu (he x v hv) hr
      have ha : args.map f = #[f x] := by apply Array.toList_inj.1; simp [hargs]
      exact ⟨ρ, w', .tuple #[], Env.Le.refl ρ, by simp [execOp, ho, resolve, invoke, builtin, ha, hrun], rfl, hr'⟩
    · cases h
  · rename_i args tys ho
    split at h
    · rename_i x t hargs htys
      obtain ⟨v, hv, e1⟩ := bindSome h
      obtain ⟨u, hu, rfl⟩ := map_some e1
      intro _
      obtain ⟨y, hd, hrun⟩ := aLen_ok (P := P) (ty := o.type) hu (he x v hv) hr
      have ha : args.map f = #[f x] := by apply Array.toList_inj.1; simp [hargs]
      have ht : tys = #[t] := by apply Array.toList_inj.1; simp [htys]
      subst ht
      exact ⟨ρ, w, y, Env.Le.refl ρ, by simp [execOp, ho, resolve, invoke, builtin, ha, hrun], hd, hr⟩
    · cases h
  · rename_i args tys ho
    split at h
    · rename_i x hargs
      obtain ⟨v, hv, e1⟩ := bindSome h
      obtain ⟨p, hu, rfl⟩ := map_some e1
      intro hm
      obtain ⟨y, hd, hrun⟩ := aUSDE_ok (P := P) (tys := tys) (ty := o.type) (v := p.1) (mu := p.2) hu hm (he x v hv) hr
      have ha : args.map f = #[f x] := by apply Array.toList_inj.1; simp [hargs]
      exact ⟨ρ, w, y, Env.Le.refl ρ, by simp [execOp, ho, resolve, invoke, builtin, ha, hrun], hd, hr⟩
    · cases h
  · rename_i args tys ho
    split at h
    · rename_i p n hargs
      split at h
      · rename_i pv nv hp hn
        obtain ⟨q, hq, rfl⟩ := map_some h
        intro hm
        have ha : args.map f = #[f p, f n] := by apply Array.toList_inj.1; simp [hargs]
        obtain ⟨ρ', w', y, hle, hrun, hd, hr'⟩ := aUStrE_ok (P := P) (ty := o.type) (v := q.1) (H' := q.2.1) (mu := q.2.2) hq hm (he p pv hp) (he n nv hn) hr
        exact ⟨ρ', w', y, hle, by simp [execOp, ho, resolve, invoke, builtin, ha, hrun], hd, hr'⟩
      · cases h
    · cases h
  · rename_i args tys ho
    split at h
    · rename_i s x hargs
      split at h
      · rename_i sv xv hs hx
        have ha : args.map f = #[f s, f x] := by apply Array.toList_inj.1; simp [hargs]
        split at h
        rotate_left
        · obtain ⟨p, hp, rfl⟩ := map_some h
          intro hm
          obtain ⟨ρ', w', y, hle, hrun, hd, hr'⟩ := aAppendE_ok (P := P) (ty := o.type) (u := p.1) (H' := p.2.1) (nl' := p.2.2.1) (mu := p.2.2.2) hp hm (he s sv hs) (he x xv hx) hr
          exact ⟨ρ', w', y, hle, by simp [execOp, ho, resolve, invoke, builtin, ha, hrun], hd, hr'⟩
        rename_i p hp
        cases h
        intro _
        obtain ⟨ρ', w', y, hle, hrun, hd, hr'⟩ := aAppend_ok (P := P) (ty := o.type) (u := p.1) (H' := p.2.1) (nl' := p.2.2) hp (he s sv hs) (he x xv hx) hr
        exact ⟨ρ', w', y, hle, by simp [execOp, ho, resolve, invoke, builtin, ha, hrun], hd, hr'⟩
      · cases h
    · cases h
  · rename_i args tys ho
    split at h
    · rename_i m k t t' hargs htys
      split at h
      · rename_i mv kv hm hk
        obtain ⟨H', hp, rfl⟩ := map_some h
        intro _
        have ha : args.map f = #[f m, f k] := by apply Array.toList_inj.1; simp [hargs]
        have ht : tys = #[t, t'] := by apply Array.toList_inj.1; simp [htys]
        subst ht
        obtain ⟨ρ', w', y, hle, hrun, hd, hr'⟩ := aMapDel_ok (P := P) (k' := t') (ty := o.type) hp (he m mv hm) (he k kv hk) hr
        exact ⟨ρ', w', y, hle, by simp [execOp, ho, resolve, invoke, builtin, ha, hrun], hd, hr'⟩
      · cases h
    · cases h
  · rename_i g args tys ho
    split at h
    · rename_i gf a b l hg hl
      obtain ⟨xs, ys, hfg, hxs, hys⟩ := den_func (he g _ hg)
      have ea : xs.toArray ++ args.map f ++ ys.toArray = (xs ++ (args.toList.map f ++ ys)).toArray := by apply Array.toList_inj.1; simp
      have hdl := AVal.denL_append hxs (AVal.denL_append (evL_ok he hl) hys)
      cases hb : hasBody P gf with
      | false =>
        rw [hb] at h; simp only [cond_false] at h
        split at h
        · rename_i k hk
          obtain ⟨p, hp, rfl⟩ := map_some h
          intro _
          obtain ⟨ρ', w', x, hle, hrun, hx, hr'⟩ := XK.run_ok (P := P) (v := p.1) (H' := p.2.1) (nl' := p.2.2) hp hdl hr
          refine ⟨ρ', w', x, hle, ?_, hx, hr'⟩
          simp only [execOp, ho, resolve, hfg, Deferred.ofValue, Sem.run_bind, Sem.run_pure, Result.andThen_ok, invoke, ea, ext_run hc hE hk hrun]
        · cases h
      | true =>
        rw [hb] at h; simp only [cond_true, Option.some.injEq] at h; subst h
        refine ⟨hb, xs ++ (args.toList.map f ++ ys), ?_, hdl⟩
        simp only [execOp, ho, resolve, hfg, Deferred.ofValue, Sem.run_bind, Sem.run_pure, Result.andThen_ok, invoke, callFunc_run hc hb, ea]
    · cases h
  · rename_i r0 m args tys ho
    split at h
    · rename_i t v l hr0 hl
      split at h
      · rename_i g u hm
        cases hb : hasBody P g with
        | false => rw [hb] at h; cases h
        | true =>
          rw [hb] at h; simp only [cond_true, Option.some.injEq] at h; subst h
          obtain ⟨y, hfy, hy⟩ := den_iface (he r0 _ hr0)
          obtain ⟨n, hn⟩ : ∃ n, P.types.size + Made.depth = n + 1 := ⟨P.types.size + Made.depth - 1, by have : 0 < Made.depth := by decide
                                                                                                        omega⟩
          obtain ⟨z, hz, hrun⟩ := aMethod_ok (P := P) hm hy hr n
          refine ⟨hb, z :: args.toList.map f, ?_, by simp only [AVal.denL, hz, evL_ok he hl]⟩
          have ea : #[z] ++ (#[Value.iface t y] ++ args.map f).extract 1 (#[Value.iface t y] ++ args.map f).size = (z :: args.toList.map f).toArray := by apply Array.toList_inj.1; simp [List.take_of_length_le]
          have e0 : (#[Value.iface t y] ++ args.map f)[0]? = some (.iface t y) := by simp [Array.getElem?_append]
          simp only [execOp, ho, resolve, hfy, Sem.run_bind, Sem.run_pure, Result.andThen_ok, invoke, e0, callMethod, run_program, hn, hrun, callFunc_run hc hb, ea]
      · cases h
    · cases h
  · cases h

end
end Go.Vm
