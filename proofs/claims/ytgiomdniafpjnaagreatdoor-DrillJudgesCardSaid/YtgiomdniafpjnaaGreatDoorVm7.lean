/-
  A machine for abstract states over the model (part 7): addresses, slices, maps.
-/
import Derived.Test.YtgiomdniafpjnaaGreatDoorVm6
namespace Go.Vm

section
variable {P : Program} {β : Base} {ρ : Env} {H : Heap} {nl : Nat} {w : World}

-- ADDRESSES
def aNilCheck : AVal → Option AVal
  | .ptr l o => some (.ptr l o)
  | .iface t v => some (.iface t v)
  | .func (.func f) a b => some (.func (.func f) a b)
  | _ => none
/-- What 'nilCheck' does, as a thing of its own. -/
def nilCheckSem (x : Value) : Sem Next := execOp (fun _ => x) { dst := none, op := .nilCheck (.tmp 0), type := 0, pos := "", after := #[], guard := none }
theorem aNilCheck_ok {v u : AVal} {x : Value} (h : aNilCheck v = some u) (hx : v.den ρ = some x) : u.den ρ = some x ∧ (nilCheckSem x).run P w = .ok (.value x) w := by
  unfold aNilCheck at h
  split at h
  · cases h; obtain ⟨_, _, rfl, _⟩ := den_ptr hx; exact ⟨hx, rfl⟩
  · cases h; obtain ⟨_, rfl, _⟩ := den_iface hx; exact ⟨hx, rfl⟩
  · cases h; obtain ⟨_, _, rfl, _⟩ := den_func hx; exact ⟨hx, rfl⟩
  · cases h

def aFieldAddr (P : Program) (s : TypeId) (x : AVal) (i : Nat) : Option AVal :=
  match x, P.underlying s with
  | .ptr l (.elem q sz j ix), some (.struct fs) => match fs.toList[i]? with
    | some f => match P.info? f.type with
      | some fi => cond (Nat.beq fi.size 0) none (some (.ptr l (.elem q sz (j + f.offset) ix)))
      | none => none
    | _ => none
  | .ptr l off, some (.struct fs) => match litNat off, fs.toList[i]? with
    | some o, some f => match P.info? f.type with
      | some fi => cond (Nat.beq fi.size 0) none (some (.ptr l (.lit (.ofNat (o + f.offset)))))
      | none => none
    | _, _ => none
  | _, _ => none
theorem den_ptr_elem {l b sz j : Nat} {q ix : IT} {y z : Int} (hb : ρ.N l = some b) (hq : q.den ρ = some z) (hy : ix.den ρ = some y) : (AVal.ptr l (.elem q sz j ix)).den ρ = some (.pointer (some ⟨b, z.toNat + (y.toNat * sz + j), none⟩)) := by
  have h0 : natOf ((IT.elem q sz j ix).den ρ) = some (z.toNat + (y.toNat * sz + j)) := by simp only [IT.den, hq, hy]; rfl
  simp only [AVal.den, hb, h0]
theorem den_ptr_lit {l b o : Nat} (hb : ρ.N l = some b) : (AVal.ptr l (.lit (.ofNat o))).den ρ = some (.pointer (some ⟨b, o, none⟩)) := by
  have h0 : natOf ((IT.lit (Int.ofNat o)).den ρ) = some o := rfl
  simp only [AVal.den, hb, h0]
theorem aFieldAddr_ok {s : TypeId} {x u : AVal} {i : Nat} {xv : Value} (h : aFieldAddr P s x i = some u) (hx : x.den ρ = some xv) :
    ∃ y, u.den ρ = some y ∧ (Instr.fieldAt s xv i).run P w = .ok y w := by
  unfold aFieldAddr at h
  split at h
  · rename_i l q sz j ix fs hu
    split at h
    · rename_i f hf
      split at h
      · rename_i fi hfi
        cases hz : Nat.beq fi.size 0 with
        | true => rw [hz] at h; cases h
        | false =>
          rw [hz] at h; simp only [cond_false, Option.some.injEq] at h; subst h
          obtain ⟨b, o', rfl, hb, hoff⟩ := den_ptr hx
          simp only [IT.den] at hoff
          split at hoff
          rotate_left
          · cases hoff
          rename_i z y hq hy
          obtain rfl : z.toNat + (y.toNat * sz + j) = o' := Int.ofNat.inj (Option.some.inj hoff)
          have hne : fi.size ≠ 0 := fun e => by rw [e, Nat.beq_refl] at hz; cases hz
          have hf' : fs[i]? = some f := by simpa using hf
          refine ⟨_, den_ptr_elem hb hq hy, ?_⟩
          simp [Instr.fieldAt, Instr.sureAddr, run_und hu, hf', fieldPlace, run_size hfi, hne, addr_add, Nat.add_assoc]
      · cases h
    · cases h
  · rename_i l off fs _ hu
    split at h
    · rename_i o f ho hf
      split at h
      · rename_i fi hfi
        cases hz : Nat.beq fi.size 0 with
        | true => rw [hz] at h; cases h
        | false =>
          rw [hz] at h; simp only [cond_false, Option.some.injEq] at h; subst h
          obtain ⟨b, o', rfl, hb, hoff⟩ := den_ptr hx
          rw [litNat_den ho] at hoff
          obtain rfl := nat_of_some hoff
          have hne : fi.size ≠ 0 := fun e => by rw [e, Nat.beq_refl] at hz; cases hz
          have hf' : fs[i]? = some f := by simpa using hf
          refine ⟨_, den_ptr_lit hb, ?_⟩
          simp [Instr.fieldAt, Instr.sureAddr, run_und hu, hf', fieldPlace, run_size hfi, hne, addr_add]
      · cases h
    · cases h
  · cases h

def aIndexAddr (P : Program) (t : TypeId) (x ix : AVal) : Option AVal :=
  match ix with
  | .int _ it => match litNat it, P.underlying t, x with
    | some i, some (.slice e), .slice l off len _ => match litNat off, litNat len, P.info? e with
      | some o, some n, some ei => cond (Nat.blt i n) (some (.ptr l (.lit (.ofNat (o + i * ei.size))))) none
      | _, _, _ => none
    | some i, some (.array n e), .ptr l off => match litNat off, P.info? e with
      | some o, some ei => cond (Nat.blt i n) (some (.ptr l (.lit (.ofNat (o + i * ei.size))))) none
      | _, _ => none
    | _, _, _ => none
  | _ => none
theorem aIndexAddr_ok {t : TypeId} {x ix u : AVal} {xv iv : Value} (h : aIndexAddr P t x ix = some u) (hx : x.den ρ = some xv) (hi : ix.den ρ = some iv) :
    ∃ y, u.den ρ = some y ∧ (Instr.indexAt t xv iv).run P w = .ok y w := by
  unfold aIndexAddr at h
  split at h
  · rename_i k it
    obtain ⟨n0, rfl, hn0⟩ := den_int hi
    split at h
    · rename_i i e l off len cap hit hu
      split at h
      · rename_i o n ei ho hn hei
        cases hb : Nat.blt i n with
        | false => rw [hb] at h; cases h
        | true =>
          rw [hb] at h; simp only [cond_true, Option.some.injEq] at h; subst h
          have hlt : i < n := by rw [Nat.blt_eq] at hb; exact hb
          obtain ⟨b, o', n', c', rfl, hN, hoff, hlen, hcap⟩ := den_slice hx
          rw [litNat_den ho] at hoff; rw [litNat_den hn] at hlen; rw [litNat_den hit] at hn0
          obtain rfl := nat_of_some hoff
          obtain rfl := nat_of_some hlen
          cases hn0
          refine ⟨_, den_ptr_lit hN, ?_⟩
          have h1 : (0 : Int) ≤ (i : Int) ∧ (i : Int) < (n : Int) := by omega
          simp [Instr.indexAt, asIntOf, run_und hu, run_size hei, h1, hlt, addr_add]
      · cases h
    · rename_i i n e l off hit hu
      split at h
      · rename_i o ei ho hei
        cases hb : Nat.blt i n with
        | false => rw [hb] at h; cases h
        | true =>
          rw [hb] at h; simp only [cond_true, Option.some.injEq] at h; subst h
          have hlt : i < n := by rw [Nat.blt_eq] at hb; exact hb
          obtain ⟨b, o', rfl, hN, hoff⟩ := den_ptr hx
          rw [litNat_den ho] at hoff; rw [litNat_den hit] at hn0
          obtain rfl := nat_of_some hoff
          cases hn0
          refine ⟨_, den_ptr_lit hN, ?_⟩
          have h1 : (0 : Int) ≤ (i : Int) ∧ (i : Int) < (n : Int) := by omega
          simp [Instr.indexAt, Instr.sureAddr, asIntOf, run_und hu, run_size hei, h1, hlt, addr_add]
      · cases h
    · cases h
  · cases h

/-- An element of a row whose length is no number. -/
def aIndexAddrE (P : Program) (t : TypeId) (x ix : AVal) : Option (AVal × List BT) :=
  match ix with
  | .int _ it => match P.underlying t, x with
    | some (.slice e), .slice l off len _ => match litNat len, P.info? e with
      | none, some ei => some (.ptr l (.elem off ei.size 0 it), inRow it len)
      | _, _ => none
    | some (.array n e), .ptr l off => match litNat it, P.info? e with
      | none, some ei => some (.ptr l (.elem off ei.size 0 it), inRow it (.lit (.ofNat n)))
      | _, _ => none
    | _, _ => none
  | _ => none
theorem aIndexAddrE_ok {t : TypeId} {x ix u : AVal} {mu : List BT} {xv iv : Value} (h : aIndexAddrE P t x ix = some (u, mu)) (hx : x.den ρ = some xv) (hi : ix.den ρ = some iv) (hm : ∀ c ∈ mu, c.den ρ = some true) :
    ∃ y, u.den ρ = some y ∧ ∀ w, (Instr.indexAt t xv iv).run P w = .ok y w := by
  unfold aIndexAddrE at h
  split at h
  · rename_i k it
    obtain ⟨n0, rfl, hn0⟩ := den_int hi
    split at h
    · rename_i e l off len cap hu
      split at h
      · rename_i ei hei
        cases h
        obtain ⟨b, o', n', c', rfl, hN, hoff, hlen, hcap⟩ := den_slice hx
        obtain ⟨x, rfl, hxm⟩ := inRow_den hm hn0 (m := n') hlen
        refine ⟨_, den_ptr_elem hN hoff hn0, fun w => ?_⟩
        have h1 : (0 : Int) ≤ (x : Int) ∧ (x : Int) < (n' : Int) := by omega
        simp [Instr.indexAt, asIntOf, run_und hu, run_size hei, h1, hxm, addr_add]
      · cases h
    · rename_i n e l off hu
      split at h
      · rename_i ei _ hei
        cases h
        obtain ⟨b, o', rfl, hN, hoff⟩ := den_ptr hx
        obtain ⟨x, rfl, hxm⟩ := inRow_den hm hn0 (m := n) rfl
        refine ⟨_, den_ptr_elem hN hoff hn0, fun w => ?_⟩
        have h1 : (0 : Int) ≤ (x : Int) ∧ (x : Int) < (n : Int) := by omega
        simp [Instr.indexAt, Instr.sureAddr, asIntOf, run_und hu, run_size hei, h1, hxm, addr_add]
      · cases h
    · cases h
  · cases h

-- ROWS OF ZEROS
def zeroRow (z : List AVal) : Nat → List AVal
  | 0 => []
  | n + 1 => z ++ zeroRow z n
theorem zeroRow_len (z : List AVal) : ∀ n, (zeroRow z n).length = n * z.length
  | 0 => by simp [zeroRow]
  | n + 1 => by simp [zeroRow, zeroRow_len z n, Nat.add_mul]; omega
theorem zeroRow_den {z : List AVal} {zs : List Value} (hz : AVal.denL ρ z = some zs) : ∀ n, AVal.denL ρ (zeroRow z n) = some (List.replicate n zs).flatten
  | 0 => by simp [zeroRow, AVal.denL]
  | n + 1 => by
    have := AVal.denL_append hz (zeroRow_den hz n)
    simpa [zeroRow, List.replicate_succ] using this
theorem zeros_eq (zs : List Value) (n : Nat) : ((List.range (n * zs.length)).map fun i => zs.toArray[i % zs.toArray.size]!) = (List.replicate n zs).flatten := by
  induction n with
  | zero => simp
  | succ n ih =>
    rw [Nat.add_mul, Nat.one_mul, Nat.add_comm, List.range_add, List.map_append, List.replicate_succ, List.flatten_cons, ← ih]
    congr 1
    · apply List.ext_getElem?
      intro i
      by_cases hi : i < zs.length
      · simp [hi, Nat.mod_eq_of_lt hi]
      · simp [hi]
    · rw [List.map_map]
      apply List.map_congr_left
      intro i _
      simp

def aBuildSlice (P : Program) (t : TypeId) (len : Nat) (parts : List (Nat × AVal)) (H : Heap) (nl : Nat) : Option (AVal × Heap) :=
  match P.underlying t with
  | some (.slice e) => match P.info? e, zeroA P e with
    | some ei, some z => match z.cells? with
      | some zc => cond (Nat.beq zc.length ei.size && Nat.ble (len * ei.size) 100000)
          (match aFill (fun i => some (i * ei.size, ei.size)) (zeroRow zc len) parts with
            | some out => some (.slice nl (.lit 0) (.lit (.ofNat len)) (.lit (.ofNat len)), H.set nl ⟨.cells out e none, true⟩)
            | none => none) none
      | none => none
    | _, _ => none
  | _ => none
theorem aBuildSlice_ok {t : TypeId} {len : Nat} {parts : List (Nat × AVal)} {ps : List (Nat × Value)} {u : AVal} {H' : Heap} (h : aBuildSlice P t len parts H nl = some (u, H'))
    (hp : denP ρ parts = some ps) (hr : HRel β ρ H nl w) : VOk P β ρ w (Instr.buildSlice t len ps.toArray) u H' (nl + 1) := by
  unfold aBuildSlice at h
  split at h
  · rename_i e hu
    split at h
    · rename_i ei z hei hz
      split at h
      · rename_i zc hzc
        cases hc : (Nat.beq zc.length ei.size && Nat.ble (len * ei.size) 100000) with
        | false => rw [hc] at h; cases h
        | true =>
          rw [hc] at h; simp only [cond_true] at h
          simp only [Bool.and_eq_true] at hc
          have h1 := Nat.eq_of_beq_eq_true hc.1
          have h2 := Nat.le_of_ble_eq_true hc.2
          split at h
          · rename_i out ho
            cases h
            obtain ⟨zv, hz1, hz2⟩ := zeroA_ok hz
            have hcs := AVal.cells?_den hzc (hz2 ρ)
            have hl := AVal.denL_length hcs
            obtain ⟨ys, hy1, hy2⟩ := aFill_ok _ parts _ out _ ps ho (zeroRow_den hcs len) hp
            obtain ⟨g1, g2⟩ := newRow_ok (P := P) (e := e) hy2 hr
            refine ⟨_, _, .slice (some ⟨w.heap.size, 0, none⟩) len len, Env.le_put (hr.fresh nl (Nat.le_refl _)), ?_, ?_, g2⟩
            · have hsz : zv.cells.size = ei.size := by simp at hl; omega
              have n1 : ¬ (len * ei.size > 2 ^ 24) := by omega
              have hrow : (Array.range (len * ei.size)).map (zv.cells[· % zv.cells.size]!) = (List.replicate len zv.cells.toList).flatten.toArray := by
                apply Array.toList_inj.1
                have := zeros_eq zv.cells.toList len
                simp only [Array.toArray_toList, Array.length_toList] at this
                rw [← this, ← hsz]
                simp
              by_cases n2 : len * ei.size = 0
              · have hnil : (List.replicate len zv.cells.toList).flatten = [] := by
                  apply List.eq_nil_of_length_eq_zero
                  simp [hsz, n2]
                rw [hnil] at hy1
                have hr0 : (Array.range (len * ei.size)).map (fun x => (#[] : Array Value)[x % (#[] : Array Value).size]!) = [].toArray := by rw [n2]; simp
                simp only [Instr.buildSlice, Sem.run_bind, run_und hu, Result.andThen_ok, run_size hei, if_neg n1, if_pos n2, Sem.run_pure, hr0, hy1, g1]
              · simp only [Instr.buildSlice, Sem.run_bind, run_und hu, Result.andThen_ok, run_size hei, if_neg n1, if_neg n2, hz1, Sem.run_pure, hrow, hy1, g1]
            · have e0 : natOf ((IT.lit 0).den (ρ.put nl w.heap.size)) = some 0 := rfl
              have e1 : natOf ((IT.lit (Int.ofNat len)).den (ρ.put nl w.heap.size)) = some len := rfl
              simp only [AVal.den, Env.put_same, e0, e1]
          · cases h
      · cases h
    · cases h
  · cases h

-- LENGTHS
def aLen0 (P : Program) (t : TypeId) (x : AVal) (H : Heap) : Option AVal :=
  match P.underlying t, x with
  | some .string, .str (.lit s) => some (.int .i64 (.lit (.ofNat s.length)))
  | some .string, .str s => some (.int .i64 (.slen s))
  | some (.slice _), .sliceNil => some (.int .i64 (.lit 0))
  | some (.slice _), .slice _ _ len _ => some (.int .i64 len)
  | some (.array n _), _ => some (.int .i64 (.lit (.ofNat n)))
  | some (.map _ _), .mapNil => some (.int .i64 (.lit 0))
  | some (.map _ _), .map l => match H.get l with
    | some ⟨.map es _, _⟩ => some (.int .i64 (.lit (.ofNat es.length)))
    | _ => none
  | _, _ => none
theorem esDen_length : ∀ {l : List (AVal × AVal × Nat)} {xs : List MapEntry}, esDen ρ l = some xs → xs.length = l.length
  | [], xs, e => by cases e; rfl
  | (a, b, n) :: r, xs, e => by
    simp only [esDen] at e
    split at e
    · rename_i x y l hx hy hl
      cases e; simp [esDen_length hl]
    · cases e
theorem HRel.map (hr : HRel β ρ H nl w) {l b : Nat} {es : List (AVal × AVal × Nat)} {cl : Nat} {rw : Bool} (h : H.get l = some ⟨.map es cl, rw⟩) (hb : ρ.N l = some b) :
    ∃ xs, w.heap[b]? = some (.map xs.toArray cl) ∧ esDen ρ es = some xs := by
  obtain ⟨b', o, hb', ho, hk⟩ := hr.blk l _ h
  rw [hb] at hb'; cases hb'
  obtain ⟨xs, rfl, h1⟩ := hk
  exact ⟨xs, ho, h1⟩
theorem getObj_map {b : Nat} {xs : Array MapEntry} {cl : Nat} (hg : w.heap[b]? = some (.map xs cl)) : (getObj b).run P w = .ok (.map xs cl) w := by
  simp [getObj, Sem.run, hg]
theorem aLen0_ok {t : TypeId} {x u : AVal} {xv : Value} {ty : TypeId} (h : aLen0 P t x H = some u) (hx : x.den ρ = some xv) (hr : HRel β ρ H nl w) :
    ∃ y, u.den ρ = some y ∧ (Builtin.len_ #[t] ty #[xv]).run P w = .ok y w := by
  unfold aLen0 at h
  split at h
  · rename_i s hu
    cases h
    simp only [AVal.den, ST.den, Option.some.injEq] at hx
    subst hx
    refine ⟨_, rfl, ?_⟩
    simp only [Builtin.len_, List.getElem?_toArray]
    simp [run_und hu, goInt]
    show ((s.toArray.size : Nat) : Int) = _
    simp
  · rename_i s _ hu
    cases h
    simp only [AVal.den, Option.some.injEq] at hx
    subst hx
    exact ⟨_, rfl, by simp [Builtin.len_, run_und hu, goInt]⟩
  · rename_i hu
    cases h
    obtain rfl := den_sliceNil hx
    exact ⟨_, rfl, by simp [Builtin.len_, run_und hu, goInt]⟩
  · rename_i l off len cap hu
    cases h
    obtain ⟨b, o, n, c, rfl, _, _, hlen, _⟩ := den_slice hx
    exact ⟨.int .i64 n, by simp [AVal.den, hlen], by simp [Builtin.len_, run_und hu, goInt]⟩
  · rename_i n e hu
    cases h
    exact ⟨_, rfl, by simp [Builtin.len_, run_und hu, goInt]⟩
  · rename_i hu
    cases h
    obtain rfl := den_mapNil hx
    exact ⟨_, rfl, by simp [Builtin.len_, run_und hu, goInt]⟩
  · rename_i l hu
    split at h
    · rename_i es cl rw hl
      cases h
      obtain ⟨b, rfl, hb⟩ := den_map hx
      obtain ⟨xs, hg, hes⟩ := hr.map hl hb
      refine ⟨_, rfl, ?_⟩
      have := esDen_length hes
      simp [Builtin.len_, run_und hu, goInt, getObj_map hg, this]
    · cases h
  · cases h

-- MAPS
def aSame (d : TypeDesc) (a b : AVal) : Option Bool :=
  match d, a, b with
  | .int _, .int k (.lit x), .int k' (.lit y) => cond (decide (k = k')) (some (iEq x y)) none
  | .string, .str (.lit x), .str (.lit y) => some (x == y)
  | _, _, _ => none
theorem ba_beq (s t : ByteArray) : (s == t) = (s.data == t.data) := rfl
theorem ba_beq_list (s t : List UInt8) : ((ByteArray.mk s.toArray) == (ByteArray.mk t.toArray)) = (s == t) := by
  rw [ba_beq, Bool.eq_iff_iff]; simp
theorem aSame_ok {d : TypeDesc} {a b : AVal} {r : Bool} {x y : Value} (h : aSame d a b = some r) (hx : a.den ρ = some x) (hy : b.den ρ = some y) :
    Instr.sameNow d x y = some r ∧ (r = true → x = y ∧ Instr.sameBits 10000 y x = true) ∧ ∀ n t e, P.underlying t = some d → (Instr.checkKey e (n + 1) t x).run P w = .ok () w := by
  unfold aSame at h
  split at h
  · rename_i k0 k m k' n
    by_cases hk : k = k'
    · subst hk
      simp only [decide_true, cond_true, Option.some.injEq] at h
      simp only [AVal.den, IT.den, Option.map_some, Option.some.injEq] at hx hy
      subst hx; subst hy
      rw [iEq_eq] at h
      have he : (m == n) = r := by rw [← h]; cases hmn : (m == n) <;> simp_all
      refine ⟨by simp [Instr.sameNow, he], ?_, fun _ _ _ hu => by simp [Instr.checkKey, run_und hu]⟩
      intro hr
      rw [hr] at he
      have : m = n := by simpa using he
      subst this
      exact ⟨rfl, by simp [Instr.sameBits]⟩
    · simp [hk] at h
  · rename_i s t
    cases h
    simp only [AVal.den, ST.den, Option.some.injEq] at hx hy
    subst hx; subst hy
    have he := ba_beq_list s t
    refine ⟨by simp [Instr.sameNow, he], ?_, fun _ _ _ hu => by simp [Instr.checkKey, run_und hu]⟩
    intro hr
    have : s = t := by simpa using hr
    subst this
    exact ⟨rfl, by simp [Instr.sameBits, ba_beq_list]⟩
  · cases h

def keyOk (d : TypeDesc) (a : AVal) : Bool :=
  match d, a with
  | .int _, .int _ (.lit _) => true
  | .string, .str (.lit _) => true
  | _, _ => false
theorem keyOk_ok {d : TypeDesc} {a : AVal} {x : Value} (h : keyOk d a = true) (hx : a.den ρ = some x) : ∀ n t e, P.underlying t = some d → (Instr.checkKey e (n + 1) t x).run P w = .ok () w := by
  unfold keyOk at h
  split at h
  · obtain ⟨_, rfl, _⟩ := den_int hx
    exact fun _ _ _ hu => by simp [Instr.checkKey, run_und hu]
  · simp only [AVal.den, Option.some.injEq] at hx
    subst hx
    exact fun _ _ _ hu => by simp [Instr.checkKey, run_und hu]
  · cases h

def aFind (d : TypeDesc) (k : AVal) : List (AVal × AVal × Nat) → Nat → Option (Option (Nat × AVal))
  | [], _ => some none
  | (a, b, _) :: r, i => match aSame d k a with
    | some true => some (some (i, b))
    | some false => aFind d k r (i + 1)
    | none => none
theorem aFind_ok (P : Program) (w : World) {d : TypeDesc} {k : AVal} {kv : Value} (hk : k.den ρ = some kv) : ∀ {es : List (AVal × AVal × Nat)} {i : Nat} {r : Option (Nat × AVal)} {xs : List MapEntry},
    aFind d k es i = some r → esDen ρ es = some xs →
    (r = none → Instr.findNow d kv xs i = some none) ∧
    (∀ j v, r = some (j, v) → ∃ x ky bn, i ≤ j ∧ Instr.findNow d kv xs i = some (some (j, x)) ∧ v.den ρ = some x ∧ xs[j - i]? = some ⟨ky, x, bn⟩ ∧ ky = kv ∧ Instr.sameBits 10000 ky kv = true ∧ ∃ ka, es[j - i]? = some (ka, v, bn))
  | [], i, r, xs, h, he => by
    cases h; cases he
    exact ⟨fun _ => rfl, fun j v e => by cases e⟩
  | (a, b, n) :: es, i, r, xs, h, he => by
    simp only [esDen] at he
    split at he
    · rename_i x y l hx hy hl
      cases he
      simp only [aFind] at h
      split at h
      · rename_i hs
        cases h
        have hS := aSame_ok (P := P) (w := w) hs hk hx
        have h1 := hS.1
        have h3 := (hS.2.1 rfl).1
        have h4 := (hS.2.1 rfl).2
        refine ⟨(fun e => by cases e), fun j v e => ?_⟩
        cases e
        exact ⟨y, x, n, Nat.le_refl _, by simp [Instr.findNow, h1], hy, by simp, h3.symm, h4, a, by simp⟩
      · rename_i hs
        have h1 := (aSame_ok (P := P) (w := w) hs hk hx).1
        obtain ⟨g1, g2⟩ := aFind_ok P w hk h hl
        refine ⟨(fun e => by simp [Instr.findNow, h1, g1 e]), fun j v e => ?_⟩
        obtain ⟨z, ky, bn, q1, q2, q3, q4, q5, q6, ka, q7⟩ := g2 j v e
        refine ⟨z, ky, bn, by omega, by simp [Instr.findNow, h1, q2], q3, ?_, q5, q6, ka, ?_⟩
        · have : j - i = (j - (i + 1)) + 1 := by omega
          rw [this]; simpa using q4
        · have : j - i = (j - (i + 1)) + 1 := by omega
          rw [this]; simpa using q7
      · cases h
    · cases he

theorem findKey_run {kt : TypeId} {d : TypeDesc} {kv : Value} {xs : List MapEntry} {r : Option (Nat × Value)} (hu : P.underlying kt = some d) (h : Instr.findNow d kv xs 0 = some r) :
    (Instr.findKey kt kv xs).run P w = .ok r w := by
  simp [Instr.findKey, run_und hu, h]

def aLookup0 (P : Program) (t : TypeId) (m k : AVal) (commaOk : Bool) (H : Heap) : Option AVal :=
  match P.underlying t with
  | some (.map kt et) => match P.underlying kt, zeroA P et with
    | some d, some z => cond (keyOk d k) (match m with
      | .mapNil => some (cond commaOk (.tuple [z, .bool (.lit false)]) z)
      | .map l => match H.get l with
        | some ⟨.map es _, _⟩ => match aFind d k es 0 with
          | some (some (_, v)) => some (cond commaOk (.tuple [v, .bool (.lit true)]) v)
          | some none => some (cond commaOk (.tuple [z, .bool (.lit false)]) z)
          | none => none
        | _ => none
      | _ => none) none
    | _, _ => none
  | _ => none
theorem aLookup0_ok {t : TypeId} {m k u : AVal} {c : Bool} {mv kv : Value} (h : aLookup0 P t m k c H = some u) (hm : m.den ρ = some mv) (hk : k.den ρ = some kv) (hr : HRel β ρ H nl w) :
    ∃ y, u.den ρ = some y ∧ (Instr.lookup t mv kv c).run P w = .ok y w := by
  unfold aLookup0 at h
  split at h
  · rename_i kt et hu
    split at h
    · rename_i d z hkt hz
      obtain ⟨zv, hz1, hz2⟩ := zeroA_ok hz
      cases hko : keyOk d k with
      | false => rw [hko] at h; cases h
      | true =>
        rw [hko] at h; simp only [cond_true] at h
        have hck := keyOk_ok (P := P) (w := w) hko hk
        split at h
        · cases h
          obtain rfl := den_mapNil hm
          refine ⟨if c then .tuple #[zv, .bool false] else zv, ?_, ?_⟩
          · cases c <;> simp [AVal.den, AVal.denL, BT.den, hz2]
          · have := hck 9999 kt true hkt
            simp [Instr.lookup, run_und hu, this, findKey_run hkt (show Instr.findNow d kv [] 0 = some none from rfl), hz1]
        · rename_i l
          split at h
          · rename_i es cl rw hl
            obtain ⟨b, rfl, hb⟩ := den_map hm
            obtain ⟨xs, hg, hes⟩ := hr.map hl hb
            split at h
            · rename_i j v hf
              cases h
              obtain ⟨x, ky, bn, _, q2, q3, _⟩ := (aFind_ok P w hk hf hes).2 j v rfl
              refine ⟨if c then .tuple #[x, .bool true] else x, ?_, ?_⟩
              · cases c <;> simp [AVal.den, AVal.denL, BT.den, q3]
              · have := hck 9999 kt xs.isEmpty hkt
                simp [Instr.lookup, run_und hu, getObj_map hg, this, findKey_run hkt q2]
            · rename_i hf
              cases h
              have q2 := (aFind_ok P w hk hf hes).1 rfl
              refine ⟨if c then .tuple #[zv, .bool false] else zv, ?_, ?_⟩
              · cases c <;> simp [AVal.den, AVal.denL, BT.den, hz2]
              · have := hck 9999 kt xs.isEmpty hkt
                simp [Instr.lookup, run_und hu, getObj_map hg, this, findKey_run hkt q2, hz1]
            · cases h
          · cases h
        · cases h
    · cases h
  · cases h

theorem esDen_set : ∀ {es : List (AVal × AVal × Nat)} {xs : List MapEntry} (j : Nat) {a b : AVal} {x y : Value} {n : Nat}, esDen ρ es = some xs → a.den ρ = some x → b.den ρ = some y →
    esDen ρ (es.set j (a, b, n)) = some (xs.set j ⟨x, y, n⟩)
  | [], xs, j, a, b, x, y, n, he, ha, hb => by cases he; simp [esDen]
  | (a0, b0, n0) :: r, xs, j, a, b, x, y, n, he, ha, hb => by
    simp only [esDen] at he
    split at he
    · rename_i x0 y0 l hx hy hl
      cases he
      cases j with
      | zero => simp [esDen, ha, hb, hl]
      | succ j => simp [esDen, hx, hy, esDen_set j hl ha hb]
    · cases he
theorem esDen_append : ∀ {es fs : List (AVal × AVal × Nat)} {xs ys : List MapEntry}, esDen ρ es = some xs → esDen ρ fs = some ys → esDen ρ (es ++ fs) = some (xs ++ ys)
  | [], fs, xs, ys, he, hf => by cases he; simpa using hf
  | (a0, b0, n0) :: r, fs, xs, ys, he, hf => by
    simp only [esDen] at he
    split at he
    · rename_i x0 y0 l hx hy hl
      cases he
      simp [esDen, hx, hy, esDen_append hl hf]
    · cases he
theorem esDen_erase : ∀ {es : List (AVal × AVal × Nat)} {xs : List MapEntry} (j : Nat), esDen ρ es = some xs → esDen ρ (es.eraseIdx j) = some (xs.eraseIdx j)
  | [], xs, j, he => by cases he; simp [esDen]
  | (a0, b0, n0) :: r, xs, j, he => by
    simp only [esDen] at he
    split at he
    · rename_i x0 y0 l hx hy hl
      cases he
      cases j with
      | zero => simpa using hl
      | succ j => simp [esDen, hx, hy, esDen_erase j hl]
    · cases he

theorem setObj_map {b : Nat} {xs ys : Array MapEntry} {cl cl' : Nat} (hg : w.heap[b]? = some (.map xs cl)) :
    (setObj b (.map ys cl')).run P w = .ok () { w with heap := w.heap.setIfInBounds b (.map ys cl') } := by
  simp [setObj, Sem.run, hg]

/-- The entries behind a store: at a place that is there; at a new one. -/
def aMapPut0 (P : Program) (t : TypeId) (m k v : AVal) (H : Heap) : Option Heap :=
  match P.underlying t, m with
  | some (.map kt _), .map l => match P.underlying kt, H.get l with
    | some d, some ⟨.map es cl, true⟩ => cond (keyOk d k) (match aFind d k es 0 with
      | some (some (j, _)) => match es[j]? with
        | some (_, _, bn) => some (H.set l ⟨.map (es.set j (k, v, bn)) cl, true⟩)
        | none => none
      | some none => some (H.set l ⟨.map (es ++ [(k, v, cl)]) (cl + 1), true⟩)
      | none => none) none
    | _, _ => none
  | _, _ => none
theorem aMapPut0_ok {t : TypeId} {m k v : AVal} {mv kv vv : Value} {H' : Heap} (h : aMapPut0 P t m k v H = some H') (hm : m.den ρ = some mv) (hk : k.den ρ = some kv) (hv : v.den ρ = some vv) (hr : HRel β ρ H nl w) :
    UOk P β ρ w (Instr.mapUpdate t mv kv vv) H' nl := by
  unfold aMapPut0 at h
  split at h
  · rename_i kt et l hu
    split at h
    · rename_i d es cl hkt hl
      cases hko : keyOk d k with
      | false => rw [hko] at h; cases h
      | true =>
        rw [hko] at h; simp only [cond_true] at h
        have hck := keyOk_ok (P := P) (w := w) hko hk
        obtain ⟨b, rfl, hb⟩ := den_map hm
        obtain ⟨xs, hg, hes⟩ := hr.map hl hb
        have hck' := hck 9999 kt false hkt
        split at h
        · rename_i j v0 hf
          obtain ⟨x, ky, bn, _, q2, q3, q4, q5, q6, ka, q7⟩ := (aFind_ok P w hk hf hes).2 j v0 rfl
          simp only [Nat.sub_zero] at q4 q7
          rw [q7] at h
          simp only [Option.some.injEq] at h
          subst h
          refine ⟨ρ, { w with heap := w.heap.setIfInBounds b (.map (xs.set j ⟨kv, vv, bn⟩).toArray cl) }, Env.Le.refl ρ, ?_, ?_⟩
          · have hm' : xs.toArray.modify j (fun e => { e with key := kv, val := vv }) = (xs.set j ⟨kv, vv, bn⟩).toArray := by
              apply Array.ext_getElem?
              intro i
              rw [Array.getElem?_modify]
              by_cases hi : j = i
              · subst hi
                have hlt : j < xs.length := (List.getElem?_eq_some_iff.1 q4).1
                have := (List.getElem?_eq_some_iff.1 q4).2
                simp [hlt, this]
              · simp [hi]
            have hx? : xs.toArray[j]? = some ⟨ky, x, bn⟩ := by simpa using q4
            simp only [Instr.mapUpdate, Sem.run_bind, run_und hu, Result.andThen_ok, getObj_map hg, hck', findKey_run hkt q2, hx?, Option.map_some, Option.getD_some]
            have hks : (Instr.keyThatStays ky kv).run P w = .ok kv w := by simp [Instr.keyThatStays, q6]
            simp only [hks, Result.andThen_ok, hm', setObj_map hg]
          · exact hr.write (k' := ⟨.map (es.set j (k, v, bn)) cl, true⟩) hl rfl hb ⟨_, rfl, esDen_set j hes hk hv⟩ rfl rfl rfl rfl
        · rename_i hf
          cases h
          have q2 := (aFind_ok P w hk hf hes).1 rfl
          refine ⟨ρ, { w with heap := w.heap.setIfInBounds b (.map (xs ++ [MapEntry.mk kv vv cl]).toArray (cl + 1)) }, Env.Le.refl ρ, ?_, ?_⟩
          · have hp : xs.toArray.push (MapEntry.mk kv vv cl) = (xs ++ [MapEntry.mk kv vv cl]).toArray := by simp
            simp only [Instr.mapUpdate, Sem.run_bind, run_und hu, Result.andThen_ok, getObj_map hg, hck', findKey_run hkt q2, hp, setObj_map hg]
          · exact hr.write (k' := ⟨.map (es ++ [(k, v, cl)]) (cl + 1), true⟩) hl rfl hb ⟨_, rfl, esDen_append hes (by simp [esDen, hk, hv])⟩ rfl rfl rfl rfl
        · cases h
    · cases h
  · cases h

def aMapDel0 (P : Program) (t : TypeId) (m k : AVal) (H : Heap) : Option Heap :=
  match P.underlying t, m with
  | some (.map kt _), .map l => match P.underlying kt, H.get l with
    | some d, some ⟨.map es cl, true⟩ => cond (keyOk d k) (match aFind d k es 0 with
      | some (some (j, _)) => some (H.set l ⟨.map (es.eraseIdx j) cl, true⟩)
      | some none => some H
      | none => none) none
    | _, _ => none
  | _, _ => none
theorem aMapDel0_ok {t k' : TypeId} {m k : AVal} {mv kv : Value} {ty : TypeId} {H' : Heap} (h : aMapDel0 P t m k H = some H') (hm : m.den ρ = some mv) (hk : k.den ρ = some kv) (hr : HRel β ρ H nl w) :
    VOk P β ρ w (Builtin.delete_ #[t, k'] ty #[mv, kv]) (.tuple []) H' nl := by
  unfold aMapDel0 at h
  split at h
  · rename_i kt et l hu
    split at h
    · rename_i d es cl hkt hl
      cases hko : keyOk d k with
      | false => rw [hko] at h; cases h
      | true =>
        rw [hko] at h; simp only [cond_true] at h
        have hck := keyOk_ok (P := P) (w := w) hko hk
        obtain ⟨b, rfl, hb⟩ := den_map hm
        obtain ⟨xs, hg, hes⟩ := hr.map hl hb
        have hck' := hck 9999 kt xs.isEmpty hkt
        split at h
        · rename_i j v0 hf
          cases h
          obtain ⟨x, ky, bn, _, q2, q3, q4, q5, q6, ka, q7⟩ := (aFind_ok P w hk hf hes).2 j v0 rfl
          simp only [Nat.sub_zero] at q4 q7
          refine ⟨ρ, { w with heap := w.heap.setIfInBounds b (.map (xs.eraseIdx j).toArray cl) }, .tuple #[], Env.Le.refl ρ, ?_, rfl, ?_⟩
          · skip
            simp [Builtin.delete_, run_und hu, getObj_map hg, hck', findKey_run hkt q2, setObj_map hg]
          · exact hr.write (k' := ⟨.map (es.eraseIdx j) cl, true⟩) hl rfl hb ⟨_, rfl, esDen_erase j hes⟩ rfl rfl rfl rfl
        · rename_i hf
          cases h
          have q2 := (aFind_ok P w hk hf hes).1 rfl
          have hsame : w.heap.setIfInBounds b (.map xs.toArray cl) = w.heap := by
            apply Array.ext_getElem?
            intro i
            rw [Array.getElem?_setIfInBounds]
            by_cases hi : b = i
            · subst hi
              have hlt := (Array.getElem?_eq_some_iff.1 hg).1
              simp [hlt, (Array.getElem?_eq_some_iff.1 hg).2]
            · simp [hi]
          refine ⟨ρ, w, .tuple #[], Env.Le.refl ρ, ?_, rfl, hr⟩
          simp [Builtin.delete_, run_und hu, getObj_map hg, hck', findKey_run hkt q2, setObj_map hg, hsame]
        · cases h
    · cases h
  · cases h

-- MAPS FROM INTS TO INTS, EACH TOLD AS ONE NUMBER
theorem entOf_len : ∀ l : List Int, (entOf l).length = l.length / 2
  | [] => rfl
  | [_] => by simp [entOf]
  | _ :: _ :: r => by
    simp only [entOf, List.length_cons, entOf_len r]; omega
theorem HRel.mapc (hr : HRel β ρ H nl w) {l b : Nat} {c : IT} {rw : Bool} (h : H.get l = some ⟨.mapc c, rw⟩) (hb : ρ.N l = some b) :
    ∃ x xs cl, w.heap[b]? = some (.map xs cl) ∧ c.den ρ = some x ∧ xs.toList.map kvOf = entOf (decL x) := by
  obtain ⟨b', o, hb', ho, hk⟩ := hr.blk l _ h
  rw [hb] at hb'; cases hb'
  obtain ⟨x, xs, cl, rfl, h1, h2, _⟩ := hk
  exact ⟨x, xs, cl, ho, h1, h2⟩
theorem Born.push {xs : Array MapEntry} {cl : Nat} (h : Born xs cl) {k v : Value} : Born (xs.push ⟨k, v, cl⟩) (cl + 1) := by
  refine ⟨fun e he => ?_, ?_⟩
  · rw [Array.toList_push] at he
    rcases List.mem_append.1 he with h1 | h1
    · exact Nat.lt_succ_of_lt (h.1 e h1)
    · rw [List.mem_singleton.1 h1]; exact Nat.lt_succ_self _
  · rw [Array.toList_push, List.map_append]
    refine List.nodup_append.2 ⟨h.2, by simp, fun a ha b hb => ?_⟩
    obtain ⟨e, he, rfl⟩ := List.mem_map.1 ha
    have := h.1 e he
    have hb : b = cl := by simpa using hb
    omega
theorem Born.of_map {xs ys : Array MapEntry} {cl : Nat} (h : Born xs cl) (e : ys.toList.map (·.born) = xs.toList.map (·.born)) : Born ys cl := by
  refine ⟨fun x hx => ?_, by rw [e]; exact h.2⟩
  have : x.born ∈ ys.toList.map (·.born) := List.mem_map.2 ⟨x, hx, rfl⟩
  rw [e] at this
  obtain ⟨y, hy, he⟩ := List.mem_map.1 this
  rw [← he]; exact h.1 y hy
theorem Born.sub {xs ys : Array MapEntry} {cl : Nat} (h : Born xs cl) (e : ys.toList.Sublist xs.toList) : Born ys cl :=
  ⟨fun x hx => h.1 x (e.subset hx), h.2.sublist (e.map _)⟩
theorem HRel.mapcB (hr : HRel β ρ H nl w) {l b : Nat} {c : IT} {rw : Bool} (h : H.get l = some ⟨.mapc c, rw⟩) (hb : ρ.N l = some b) :
    ∃ x xs cl, w.heap[b]? = some (.map xs cl) ∧ c.den ρ = some x ∧ xs.toList.map kvOf = entOf (decL x) ∧ Born xs cl := by
  obtain ⟨b', o, hb', ho, hk⟩ := hr.blk l _ h
  rw [hb] at hb'; cases hb'
  obtain ⟨x, xs, cl, rfl, h1, h2, h3⟩ := hk
  exact ⟨x, xs, cl, ho, h1, h2, h3⟩
theorem findC (k0 : IntKind) (k : Int) : ∀ {xs : List MapEntry} {l : List Int} (i : Nat), xs.map kvOf = entOf l →
    (mGet l k = none → Instr.findNow (.int k0) (.int .i64 k) xs i = some none ∧ entOf (mDel l k) = entOf l ∧ ∀ y, entOf (mPut l k y) = entOf l ++ [(.int .i64 k, .int .i64 y)]) ∧
    (∀ v, mGet l k = some v → ∃ j bn, Instr.findNow (.int k0) (.int .i64 k) xs i = some (some (i + j, .int .i64 v)) ∧ xs[j]? = some ⟨.int .i64 k, .int .i64 v, bn⟩ ∧
      (∀ y bn', (xs.set j ⟨.int .i64 k, .int .i64 y, bn'⟩).map kvOf = entOf (mPut l k y)) ∧ (xs.eraseIdx j).map kvOf = entOf (mDel l k))
  | [], l, i, h => by
    match l, h with
    | [], _ => exact ⟨fun _ => ⟨rfl, rfl, fun _ => rfl⟩, fun v e => by cases e⟩
    | [_], _ => exact ⟨fun _ => ⟨rfl, rfl, fun _ => rfl⟩, fun v e => by cases e⟩
    | _ :: _ :: _, h => cases h
  | e :: xs, l, i, h => by
    match l, h with
    | [], h => cases h
    | [_], h => cases h
    | a :: b :: r, h =>
      simp only [List.map_cons, entOf, List.cons.injEq] at h
      obtain ⟨h1, h2⟩ := h
      obtain ⟨ek, ev, bn⟩ := e
      simp only [kvOf, Prod.mk.injEq] at h1
      obtain ⟨rfl, rfl⟩ := h1
      by_cases hk : a = k
      · subst hk
        refine ⟨fun e => by simp [mGet] at e, fun v e => ?_⟩
        simp only [mGet, if_true, Option.some.injEq] at e
        subst e
        refine ⟨0, bn, by simp [Instr.findNow, Instr.sameNow], rfl, fun y bn' => ?_, ?_⟩
        · simp only [List.set_cons_zero, List.map_cons, kvOf, mPut, if_true, entOf, h2]
        · simp only [List.eraseIdx_cons_zero, mDel, if_true, h2]
      · obtain ⟨g1, g2⟩ := findC k0 k (i + 1) h2
        have hne : (k == a) = false := by
          rw [Bool.eq_false_iff]; intro e; exact hk (by simpa using e : k = a).symm
        have hs : Instr.sameNow (.int k0) (.int .i64 k) (.int .i64 a) = some false := by
          simp only [Instr.sameNow, if_true, hne]
        refine ⟨fun e => ?_, fun v e => ?_⟩
        · simp only [mGet, if_neg hk] at e
          obtain ⟨q1, q2, q3⟩ := g1 e
          refine ⟨by simp only [Instr.findNow, hs, q1], by simp only [mDel, if_neg hk, entOf, q2], fun y => by simp only [mPut, if_neg hk, entOf, q3, List.cons_append]⟩
        · simp only [mGet, if_neg hk] at e
          obtain ⟨j, bn0, q1, q2, q3, q4⟩ := g2 v e
          refine ⟨j + 1, bn0, ?_, by simpa using q2, fun y bn' => ?_, ?_⟩
          · simp only [Instr.findNow, hs, q1]
            congr 3; omega
          · simp only [List.set_cons_succ, List.map_cons, kvOf, mPut, if_neg hk, entOf]
            rw [← q3 y bn']
          · simp only [List.eraseIdx_cons_succ, List.map_cons, kvOf, mDel, if_neg hk, entOf]
            rw [← q4]
def keyC (d : TypeDesc) : Bool :=
  match d with
  | .int _ => true
  | _ => false
theorem keyC_ok {d : TypeDesc} (h : keyC d = true) {x : Int} : (∃ k0, d = .int k0) ∧ ∀ n t e, P.underlying t = some d → (Instr.checkKey e (n + 1) t (.int .i64 x)).run P w = .ok () w := by
  unfold keyC at h
  split at h
  · exact ⟨⟨_, rfl⟩, fun _ _ _ hu => by simp [Instr.checkKey, run_und hu]⟩
  · cases h
def aLenC (P : Program) (t : TypeId) (x : AVal) (H : Heap) : Option AVal :=
  match P.underlying t, x with
  | some (.map _ _), .map l => match H.get l with
    | some ⟨.mapc c, _⟩ => some (.int .i64 (.un 9 c (.lit 0)))
    | _ => none
  | _, _ => none
def aLen (P : Program) (t : TypeId) (x : AVal) (H : Heap) : Option AVal :=
  match aLen0 P t x H with
  | some u => some u
  | none => aLenC P t x H
theorem aLen_ok {t : TypeId} {x u : AVal} {xv : Value} {ty : TypeId} (h : aLen P t x H = some u) (hx : x.den ρ = some xv) (hr : HRel β ρ H nl w) :
    ∃ y, u.den ρ = some y ∧ (Builtin.len_ #[t] ty #[xv]).run P w = .ok y w := by
  unfold aLen at h
  split at h
  · rename_i hh
    cases h
    exact aLen0_ok hh hx hr
  · rename_i hn
    clear hn
    unfold aLenC at h
    split at h
    · rename_i l hu
      split at h
      · rename_i c rw hl
        cases h
        obtain ⟨b, rfl, hb⟩ := den_map hx
        obtain ⟨z, xs, cl, hg, hc, he⟩ := hr.mapc hl hb
        have hlen : xs.size = (decL z).length / 2 := by
          have := congrArg List.length he
          rw [List.length_map, entOf_len] at this
          simpa using this
        refine ⟨.int .i64 (((decL z).length / 2 : Nat) : Int), by simp only [AVal.den, IT.den, hc, univ, Option.map_some], ?_⟩
        simp [Builtin.len_, run_und hu, goInt, getObj_map hg, hlen]
      · cases h
    · cases h
def aLookupC (P : Program) (t : TypeId) (m k : AVal) (commaOk : Bool) (H : Heap) : Option AVal :=
  match P.underlying t with
  | some (.map kt et) => match P.underlying kt, zeroA P et with
    | some d, some (.int .i64 (.lit (.ofNat 0))) => cond (keyC d) (match m, k with
      | .map l, .int .i64 x => match H.get l with
        | some ⟨.mapc c, _⟩ => some (cond commaOk (.tuple [.int .i64 (.un 5 c x), .bool (.cmp .eql (.un 6 c x) (.lit 1))]) (.int .i64 (.un 5 c x)))
        | _ => none
      | _, _ => none) none
    | _, _ => none
  | _ => none
def aLookup (P : Program) (t : TypeId) (m k : AVal) (commaOk : Bool) (H : Heap) : Option AVal :=
  match aLookup0 P t m k commaOk H with
  | some u => some u
  | none => aLookupC P t m k commaOk H
theorem aLookup_ok {t : TypeId} {m k u : AVal} {c : Bool} {mv kv : Value} (h : aLookup P t m k c H = some u) (hm : m.den ρ = some mv) (hk : k.den ρ = some kv) (hr : HRel β ρ H nl w) :
    ∃ y, u.den ρ = some y ∧ (Instr.lookup t mv kv c).run P w = .ok y w := by
  unfold aLookup at h
  split at h
  · rename_i hh
    cases h
    exact aLookup0_ok hh hm hk hr
  · rename_i hn
    clear hn
    unfold aLookupC at h
    split at h
    · rename_i kt et hu
      split at h
      · rename_i d hkt hz
        obtain ⟨zv, hz1, hz2⟩ := zeroA_ok hz
        have hz3 : zv = .int .i64 0 := (Option.some.inj (hz2 ρ)).symm
        subst hz3
        cases hko : keyC d with
        | false => rw [hko] at h; cases h
        | true =>
          rw [hko] at h; simp only [cond_true] at h
          split at h
          · rename_i l x
            split at h
            · rename_i ct rw hl
              cases h
              obtain ⟨b, rfl, hb⟩ := den_map hm
              obtain ⟨z, xs, cl, hg, hc, he⟩ := hr.mapc hl hb
              obtain ⟨kz, rfl, hkz⟩ := den_int hk
              obtain ⟨⟨k0, rfl⟩, hck⟩ := keyC_ok (P := P) (w := w) hko (x := kz)
              have hck' := hck 9999 kt xs.isEmpty hkt
              obtain ⟨f1, f2⟩ := findC k0 kz 0 he
              have e5 : (IT.un 5 ct x).den ρ = some ((mGet (decL z) kz).getD 0) := by simp only [IT.den, hc, hkz, univ]
              have e6 : (IT.un 6 ct x).den ρ = some (if (mGet (decL z) kz).isSome then 1 else 0) := by simp only [IT.den, hc, hkz, univ]
              cases hmg : mGet (decL z) kz with
              | none =>
                obtain ⟨q2, _⟩ := f1 hmg
                rw [hmg] at e5 e6
                have el : (IT.lit 1).den ρ = some 1 := rfl
                refine ⟨if c then .tuple #[.int .i64 0, .bool false] else .int .i64 0, ?_, ?_⟩
                · cases c
                  · simp only [cond_false, AVal.den, e5, Option.map_some]; rfl
                  · simp only [cond_true, AVal.den, AVal.denL, BT.den, e5, e6, el, Option.map_some]; rfl
                · cases c <;> simp [Instr.lookup, run_und hu, getObj_map hg, hck', findKey_run hkt q2, hz1]
              | some v =>
                obtain ⟨j, bn, q2, _⟩ := f2 v hmg
                rw [hmg] at e5 e6
                have el : (IT.lit 1).den ρ = some 1 := rfl
                refine ⟨if c then .tuple #[.int .i64 v, .bool true] else .int .i64 v, ?_, ?_⟩
                · cases c
                  · simp only [cond_false, AVal.den, e5, Option.map_some]; rfl
                  · simp only [cond_true, AVal.den, AVal.denL, BT.den, e5, e6, el, Option.map_some]; rfl
                · cases c <;> simp [Instr.lookup, run_und hu, getObj_map hg, hck', findKey_run hkt q2]
            · cases h
          · cases h
      · cases h
    · cases h
theorem HRel.mapW (hr : HRel β ρ H nl w) {l b : Nat} {k : HB} (hl : H.get l = some k) (hrw : k.rw = true) (hb : ρ.N l = some b) {es : Array MapEntry} {cl : Nat} {c : IT} {z : Int} (hc : c.den ρ = some z) (he : es.toList.map kvOf = entOf (decL z)) (hbn : Born es cl) :
    HRel β ρ (H.set l ⟨.mapc c, true⟩) nl { w with heap := w.heap.setIfInBounds b (.map es cl) } :=
  hr.write (k' := ⟨.mapc c, true⟩) hl hrw hb ⟨z, es, cl, rfl, hc, he, hbn⟩ rfl rfl rfl rfl
def aMapPutC (P : Program) (t : TypeId) (m k v : AVal) (H : Heap) : Option Heap :=
  match P.underlying t, m, k, v with
  | some (.map kt _), .map l, .int .i64 x, .int .i64 y => match P.underlying kt, H.get l with
    | some d, some ⟨.mapc c, true⟩ => cond (keyC d) (some (H.set l ⟨.mapc (.un 7 c (.un 1 x y)), true⟩)) none
    | _, _ => none
  | _, _, _, _ => none
def aMapPut (P : Program) (t : TypeId) (m k v : AVal) (H : Heap) : Option Heap :=
  match aMapPut0 P t m k v H with
  | some u => some u
  | none => aMapPutC P t m k v H
theorem aMapPut_ok {t : TypeId} {m k v : AVal} {mv kv vv : Value} {H' : Heap} (h : aMapPut P t m k v H = some H') (hm : m.den ρ = some mv) (hk : k.den ρ = some kv) (hv : v.den ρ = some vv) (hr : HRel β ρ H nl w) :
    UOk P β ρ w (Instr.mapUpdate t mv kv vv) H' nl := by
  unfold aMapPut at h
  split at h
  · rename_i hh
    cases h
    exact aMapPut0_ok hh hm hk hv hr
  · rename_i hn
    clear hn
    unfold aMapPutC at h
    split at h
    · rename_i kt et l x y hu
      split at h
      · rename_i d ct hkt hl
        cases hko : keyC d with
        | false => rw [hko] at h; cases h
        | true =>
          rw [hko] at h; simp only [cond_true, Option.some.injEq] at h
          subst h
          obtain ⟨b, rfl, hb⟩ := den_map hm
          obtain ⟨z, xs, cl, hg, hc, he, hbn⟩ := hr.mapcB hl hb
          obtain ⟨kz, rfl, hkz⟩ := den_int hk
          obtain ⟨vz, rfl, hvz⟩ := den_int hv
          obtain ⟨⟨k0, rfl⟩, hck⟩ := keyC_ok (P := P) (w := w) hko (x := kz)
          have hck' := hck 9999 kt false hkt
          obtain ⟨f1, f2⟩ := findC k0 kz 0 he
          have e7 : (IT.un 7 ct (.un 1 x y)).den ρ = some (encL (mPut (decL z) kz vz)) := by
            simp only [IT.den, hc, hkz, hvz, univ, decL_encL, List.getD_cons_zero, List.getD_cons_succ]
          cases hmg : mGet (decL z) kz with
          | none =>
            obtain ⟨q2, _, q3⟩ := f1 hmg
            refine ⟨ρ, _, Env.Le.refl ρ, ?_, hr.mapW (es := xs.push ⟨.int .i64 kz, .int .i64 vz, cl⟩) (cl := cl + 1) hl rfl hb e7 ?_ ?_⟩
            · simp only [Instr.mapUpdate, Sem.run_bind, run_und hu, Result.andThen_ok, getObj_map hg, hck', findKey_run hkt q2, setObj_map hg]
            · rw [decL_encL, q3 vz, Array.toList_push, List.map_append, he]; rfl
            · exact hbn.push
          | some v =>
            obtain ⟨j, bn, q2, q4, q5, _⟩ := f2 v hmg
            rw [Nat.zero_add] at q2
            have hx? : xs[j]? = some ⟨.int .i64 kz, .int .i64 v, bn⟩ := by rw [← Array.getElem?_toList]; exact q4
            have hm' : (xs.modify j (fun e => { e with key := .int .i64 kz, val := .int .i64 vz })).toList = xs.toList.set j ⟨.int .i64 kz, .int .i64 vz, bn⟩ := by
              apply List.ext_getElem?
              intro i
              rw [Array.getElem?_toList, Array.getElem?_modify, List.getElem?_set]
              by_cases hi : j = i
              · subst hi
                have hlt : j < xs.size := (Array.getElem?_eq_some_iff.1 hx?).1
                have hb1 : xs[j].born = bn := by rw [(Array.getElem?_eq_some_iff.1 hx?).2]
                simp [hlt, hb1]
              · simp [hi]
            have hks : (Instr.keyThatStays (.int .i64 kz) (.int .i64 kz)).run P w = .ok (.int .i64 kz) w := by simp [Instr.keyThatStays, Instr.sameBits]
            refine ⟨ρ, _, Env.Le.refl ρ, ?_, hr.mapW (es := xs.modify j (fun e => { e with key := .int .i64 kz, val := .int .i64 vz })) (cl := cl) hl rfl hb e7 ?_ ?_⟩
            · simp only [Instr.mapUpdate, Sem.run_bind, run_und hu, Result.andThen_ok, getObj_map hg, hck', findKey_run hkt q2, hx?, Option.map_some, Option.getD_some, hks, setObj_map hg]
            · rw [decL_encL, hm', q5 vz bn]
            · have hmb : (xs.modify j (fun e => { e with key := .int .i64 kz, val := .int .i64 vz })).toList.map (·.born) = xs.toList.map (·.born) := by
                rw [hm']
                apply List.ext_getElem?
                intro i
                rw [List.getElem?_map, List.getElem?_map, List.getElem?_set]
                by_cases hi : j = i
                · subst hi
                  have hlt : j < xs.toList.length := (List.getElem?_eq_some_iff.1 q4).1
                  rw [if_pos rfl, if_pos hlt, q4]; rfl
                · rw [if_neg hi]
              exact hbn.of_map hmb
      · cases h
    · cases h
def aMapDelC (P : Program) (t : TypeId) (m k : AVal) (H : Heap) : Option Heap :=
  match P.underlying t, m, k with
  | some (.map kt _), .map l, .int .i64 x => match P.underlying kt, H.get l with
    | some d, some ⟨.mapc c, true⟩ => cond (keyC d) (some (H.set l ⟨.mapc (.un 8 c x), true⟩)) none
    | _, _ => none
  | _, _, _ => none
def aMapDel (P : Program) (t : TypeId) (m k : AVal) (H : Heap) : Option Heap :=
  match aMapDel0 P t m k H with
  | some u => some u
  | none => aMapDelC P t m k H
theorem aMapDel_ok {t k' : TypeId} {m k : AVal} {mv kv : Value} {ty : TypeId} {H' : Heap} (h : aMapDel P t m k H = some H') (hm : m.den ρ = some mv) (hk : k.den ρ = some kv) (hr : HRel β ρ H nl w) :
    VOk P β ρ w (Builtin.delete_ #[t, k'] ty #[mv, kv]) (.tuple []) H' nl := by
  unfold aMapDel at h
  split at h
  · rename_i hh
    cases h
    exact aMapDel0_ok hh hm hk hr
  · rename_i hn
    clear hn
    unfold aMapDelC at h
    split at h
    · rename_i kt et l x hu
      split at h
      · rename_i d ct hkt hl
        cases hko : keyC d with
        | false => rw [hko] at h; cases h
        | true =>
          rw [hko] at h; simp only [cond_true, Option.some.injEq] at h
          subst h
          obtain ⟨b, rfl, hb⟩ := den_map hm
          obtain ⟨z, xs, cl, hg, hc, he, hbn⟩ := hr.mapcB hl hb
          obtain ⟨kz, rfl, hkz⟩ := den_int hk
          obtain ⟨⟨k0, rfl⟩, hck⟩ := keyC_ok (P := P) (w := w) hko (x := kz)
          have hck' := hck 9999 kt xs.isEmpty hkt
          obtain ⟨f1, f2⟩ := findC k0 kz 0 he
          have e8 : (IT.un 8 ct x).den ρ = some (encL (mDel (decL z) kz)) := by simp only [IT.den, hc, hkz, univ]
          cases hmg : mGet (decL z) kz with
          | none =>
            obtain ⟨q2, q3, _⟩ := f1 hmg
            have hsame : w.heap.setIfInBounds b (.map xs cl) = w.heap := by
              apply Array.ext_getElem?
              intro i
              rw [Array.getElem?_setIfInBounds]
              by_cases hi : b = i
              · subst hi
                have hlt := (Array.getElem?_eq_some_iff.1 hg).1
                simp [hlt, (Array.getElem?_eq_some_iff.1 hg).2]
              · simp [hi]
            have hW := hr.mapW (es := xs) (cl := cl) hl rfl hb e8 (by rw [decL_encL, q3, he]) hbn
            rw [hsame] at hW
            refine ⟨ρ, w, .tuple #[], Env.Le.refl ρ, ?_, rfl, hW⟩
            simp [Builtin.delete_, run_und hu, getObj_map hg, hck', findKey_run hkt q2, setObj_map hg, hsame]
          | some v =>
            obtain ⟨j, bn, q2, q4, _, q6⟩ := f2 v hmg
            rw [Nat.zero_add] at q2
            have hx? : xs[j]? = some ⟨.int .i64 kz, .int .i64 v, bn⟩ := by rw [← Array.getElem?_toList]; exact q4
            have hj : j < xs.size := (Array.getElem?_eq_some_iff.1 hx?).1
            refine ⟨ρ, _, .tuple #[], Env.Le.refl ρ, ?_, rfl, hr.mapW (es := xs.eraseIdxIfInBounds j) (cl := cl) hl rfl hb e8 (by rw [decL_encL, ← q6]; congr 1; simp [Array.eraseIdxIfInBounds, hj]) (hbn.sub (by simp only [Array.eraseIdxIfInBounds, hj, dif_pos, Array.toList_eraseIdx]; exact List.eraseIdx_sublist _ _))⟩
            simp [Builtin.delete_, run_und hu, getObj_map hg, hck', findKey_run hkt q2, setObj_map hg]
      · cases h
    · cases h

def aMakeMap (H : Heap) (nl : Nat) : AVal × Heap := (.map nl, H.set nl ⟨.map [] 0, true⟩)
theorem aMakeMap_ok {t : TypeId} (hr : HRel β ρ H nl w) : VOk P β ρ w (Instr.makeMap t none) (.map nl) (H.set nl ⟨.map [] 0, true⟩) (nl + 1) := by
  refine ⟨ρ.put nl w.heap.size, _, .map (some w.heap.size), Env.le_put (hr.fresh nl (Nat.le_refl _)), ?_, by simp [AVal.den, Env.put_same], hr.new (.map #[] 0) (.map [] 0) true ⟨[], rfl, rfl⟩⟩
  simp [Instr.makeMap]

-- A RANGE OVER A MAP WHOSE ENTRIES ARE KNOWN, ONE LEFT AT MOST
def leftOf (es : List (AVal × AVal × Nat)) (seen : List Nat) : List (AVal × AVal × Nat) := es.filter fun e => !seen.contains e.2.2
def aRange (P : Program) (t : TypeId) (x : AVal) (H : Heap) (nl : Nat) : Option (AVal × Heap) :=
  match P.underlying t, x with
  | some (.map _ _), .map l => match H.get l with
    | some ⟨.map _ cl, _⟩ => some (.ptr nl (.lit 0), H.set nl ⟨.iter l cl [] cl, true⟩)
    | _ => none
  | _, _ => none
def aNext (x : AVal) (H : Heap) : Option (AVal × Heap) :=
  match x with
  | .ptr r (.lit (.ofNat 0)) => match H.get r with
    | some ⟨.iter l since seen last, true⟩ => match H.get l with
      | some ⟨.map es cl, _⟩ => cond (seen.isEmpty || es.isEmpty || es.any (fun e => Nat.blt e.2.2 last)) (match leftOf es seen with
        | [] => some (.tuple [.bool (.lit false)], H)
        | [e] => cond (Nat.blt e.2.2 since) (some (.tuple [.bool (.lit true), e.1, e.2.1], H.set r ⟨.iter l since (seen ++ [e.2.2]) cl, true⟩)) none
        | _ => none) none
      | _ => none
    | _ => none
  | _ => none
def aEntry (x : AVal) (H : Heap) : Option AVal :=
  match x with
  | .ptr r (.lit (.ofNat 0)) => match H.get r with
    | some ⟨.iter l _ seen last, _⟩ => match H.get l, seen.getLast? with
      | some ⟨.map es cl, _⟩, some stamp => cond (Nat.beq cl last) (match es.find? (fun e => Nat.beq e.2.2 stamp) with
        | some e => some (.tuple [e.1, e.2.1])
        | none => none) none
      | _, _ => none
    | _ => none
  | _ => none
theorem esDen_filter (p : Nat → Bool) : ∀ {es : List (AVal × AVal × Nat)} {xs : List MapEntry}, esDen ρ es = some xs → esDen ρ (es.filter fun e => p e.2.2) = some (xs.filter fun e => p e.born)
  | [], xs, h => by cases h; rfl
  | (a, b, n) :: r, xs, h => by
    simp only [esDen] at h
    split at h
    · rename_i x y l hx hy hl
      cases h
      have ih := esDen_filter p hl
      by_cases hp : p n = true
      · simp only [List.filter_cons, hp, if_true, esDen, hx, hy, ih]
      · have hp : p n = false := by simpa using hp
        simp only [List.filter_cons, hp, Bool.false_eq_true, if_false, ih]
    · cases h
theorem esDen_find (p : Nat → Bool) : ∀ {es : List (AVal × AVal × Nat)} {xs : List MapEntry} {e : AVal × AVal × Nat}, esDen ρ es = some xs → es.find? (fun e => p e.2.2) = some e → ∃ x, xs.find? (fun e => p e.born) = some x ∧ e.1.den ρ = some x.key ∧ e.2.1.den ρ = some x.val
  | [], xs, e, h, hf => by cases hf
  | (a, b, n) :: r, xs, e, h, hf => by
    simp only [esDen] at h
    split at h
    · rename_i x y l hx hy hl
      cases h
      by_cases hp : p n = true
      · simp only [List.find?_cons, hp] at hf
        cases hf
        exact ⟨⟨x, y, n⟩, by simp only [List.find?_cons, hp], hx, hy⟩
      · have hp : p n = false := by simpa using hp
        simp only [List.find?_cons, hp] at hf
        obtain ⟨z, h1, h2⟩ := esDen_find p hl hf
        exact ⟨z, by simp only [List.find?_cons, hp]; exact h1, h2⟩
    · cases h
theorem esDen_len : ∀ {es : List (AVal × AVal × Nat)} {xs : List MapEntry}, esDen ρ es = some xs → xs.length = es.length ∧ ∀ (i : Nat) e, es[i]? = some e → ∃ x, xs[i]? = some x ∧ x.born = e.2.2 ∧ e.1.den ρ = some x.key ∧ e.2.1.den ρ = some x.val
  | [], xs, h => by cases h; exact ⟨rfl, fun i e h => by simp at h⟩
  | (a, b, n) :: r, xs, h => by
    simp only [esDen] at h
    split at h
    · rename_i x y l hx hy hl
      cases h
      obtain ⟨h1, h2⟩ := esDen_len hl
      refine ⟨by simp [h1], fun i e h => ?_⟩
      cases i with
      | zero => simp only [List.getElem?_cons_zero, Option.some.injEq] at h; subst h; exact ⟨_, rfl, rfl, hx, hy⟩
      | succ i => simpa using h2 i e (by simpa using h)
    · cases h
theorem aRange_ok {t : TypeId} {x v : AVal} {xv : Value} {H' : Heap} (h : aRange P t x H nl = some (v, H')) (hx : x.den ρ = some xv) (hr : HRel β ρ H nl w) : VOk P β ρ w (Instr.range t xv) v H' (nl + 1) := by
  unfold aRange at h
  split at h
  · rename_i l hu
    split at h
    · rename_i es cl rw hl
      cases h
      obtain ⟨b, rfl, hb⟩ := den_map hx
      obtain ⟨xs, hg, hes⟩ := hr.map hl hb
      refine ⟨ρ.put nl w.heap.size, _, .pointer (some ⟨w.heap.size, 0, none⟩), Env.le_put (hr.fresh nl (Nat.le_refl _)), ?_, by simp only [AVal.den, Env.put_same]; rfl, hr.new (.mapIter (some b) cl #[] cl) (.iter l cl [] cl) true ⟨b, ?_, rfl⟩⟩
      · simp [Instr.range, run_und hu, getObj_map hg]
      · exact hb
    · cases h
  · cases h
theorem HRel.iter (hr : HRel β ρ H nl w) {r br l since last : Nat} {seen : List Nat} {rw : Bool} (h : H.get r = some ⟨.iter l since seen last, rw⟩) (hb : ρ.N r = some br) :
    ∃ b, ρ.N l = some b ∧ w.heap[br]? = some (.mapIter (some b) since seen.toArray last) := by
  obtain ⟨b', o, hb', ho, b, hl, rfl⟩ := hr.blk r _ h
  rw [hb] at hb'; cases hb'
  exact ⟨b, hl, ho⟩
theorem getObj_iter {b : Nat} {m : Option Nat} {s l : Nat} {seen : Array Nat} (hg : w.heap[b]? = some (.mapIter m s seen l)) : (getObj b).run P w = .ok (.mapIter m s seen l) w := by
  simp [getObj, Sem.run, hg]
theorem den_ptr0 {l : Nat} {v : Value} (h : (AVal.ptr l (.lit (.ofNat 0))).den ρ = some v) : ∃ b, v = .pointer (some ⟨b, 0, none⟩) ∧ ρ.N l = some b := by
  have h : (AVal.ptr l (.lit 0)).den ρ = some v := h
  simp only [AVal.den] at h
  cases hN : ρ.N l with
  | none => rw [hN] at h; cases h
  | some b => rw [hN] at h; cases h; exact ⟨b, rfl, rfl⟩
theorem next_guard {es : List (AVal × AVal × Nat)} {xs : List MapEntry} {seen : List Nat} {last : Nat} (hes : esDen ρ es = some xs) (h : (seen.isEmpty || es.isEmpty || es.any (fun e => Nat.blt e.2.2 last)) = true) : (!seen.toArray.isEmpty && !xs.toArray.isEmpty && xs.toArray.all (fun e => decide (e.born ≥ last))) = false := by
  obtain ⟨hl, hi⟩ := esDen_len hes
  simp only [Bool.or_eq_true] at h
  rcases h with (h | h) | h
  · have : seen = [] := by simpa using h
    subst this; rfl
  · have : es = [] := by simpa using h
    subst this
    have : xs = [] := List.eq_nil_of_length_eq_zero (by rw [hl]; rfl)
    subst this; simp
  · obtain ⟨e, he, hlt⟩ := List.any_eq_true.1 h
    obtain ⟨i, hi'⟩ := List.getElem?_of_mem he
    obtain ⟨x, hx, hb, _⟩ := hi i e hi'
    have hxm := List.mem_of_getElem? hx
    rw [Bool.and_eq_false_iff]
    right
    rw [List.all_toArray, List.all_eq_false]
    refine ⟨x, hxm, ?_⟩
    simp only [Nat.blt_eq] at hlt
    simp only [ge_iff_le, decide_eq_true_eq, Nat.not_le]
    omega
theorem aNext_ok {x v : AVal} {xv : Value} {ty : TypeId} {H' : Heap} (h : aNext x H = some (v, H')) (hx : x.den ρ = some xv) (hr : HRel β ρ H nl w) : VOk P β ρ w (Instr.next xv false ty) v H' nl := by
  unfold aNext at h
  split at h
  rotate_left
  · cases h
  rename_i r
  split at h
  rotate_left
  · cases h
  rename_i l since seen last hgr
  split at h
  rotate_left
  · cases h
  rename_i es cl rw hgl
  obtain ⟨br, rfl, hbr⟩ := den_ptr0 hx
  obtain ⟨b, hb, hor⟩ := hr.iter hgr hbr
  obtain ⟨xs, hg, hes⟩ := hr.map hgl hb
  cases hq : (seen.isEmpty || es.isEmpty || es.any (fun e => Nat.blt e.2.2 last)) with
  | false => rw [hq] at h; cases h
  | true =>
    rw [hq] at h
    simp only [cond_true] at h
    have hgd := next_guard hes hq
    have hlf := esDen_filter (fun n => !seen.contains n) hes
    have hleft : xs.toArray.filter (fun e => !seen.toArray.contains e.born) = (xs.filter fun e => !seen.contains e.born).toArray := by simp
    split at h
    · rename_i hL
      cases h
      have hL' : es.filter (fun e => !seen.contains e.2.2) = [] := hL
      rw [hL'] at hlf
      have hxs : xs.filter (fun e => !seen.contains e.born) = [] := (Option.some.inj hlf).symm
      refine ⟨ρ, w, .tuple #[.bool false], Env.Le.refl ρ, ?_, rfl, hr⟩
      simp only [Instr.next, Sem.run_bind, getObj_iter hor, Result.andThen_ok, getObj_map hg, hgd, Bool.false_eq_true, if_false, hleft, hxs]
      simp [Question.forced]
    · rename_i e hL
      cases hs : Nat.blt e.2.2 since with
      | false => rw [hs] at h; cases h
      | true =>
        rw [hs] at h
        simp only [cond_true, Option.some.injEq, Prod.mk.injEq] at h
        obtain ⟨rfl, rfl⟩ := h
        have hL' : es.filter (fun e => !seen.contains e.2.2) = [e] := hL
        rw [hL'] at hlf
        obtain ⟨ek, ev, en⟩ := e
        simp only [esDen] at hlf
        split at hlf
        rotate_left
        · cases hlf
        rename_i y z l' hy hz hl'
        cases hl'
        have hxs : xs.filter (fun e => !seen.contains e.born) = [⟨y, z, en⟩] := (Option.some.inj hlf).symm
        have hlt : en < since := by simpa [Nat.blt_eq] using hs
        have hge : ¬ since ≤ en := by omega
        refine ⟨ρ, { w with heap := w.heap.setIfInBounds br (.mapIter (some b) since (seen.toArray.push en) cl) }, .tuple #[.bool true, y, z], Env.Le.refl ρ, ?_, ?_, hr.write (k' := ⟨.iter l since (seen ++ [en]) cl, true⟩) hgr rfl hbr ⟨b, hb, by simp⟩ rfl rfl rfl rfl⟩
        · simp only [Instr.next, Sem.run_bind, getObj_iter hor, Result.andThen_ok, getObj_map hg, hgd, Bool.false_eq_true, if_false, hleft, hxs]
          simp [Question.forced, hlt, hge, setObj, Sem.run, hor]
        · simp only [AVal.den, AVal.denL, BT.den, hy, hz, Option.map_some]
    · cases h
theorem aEntry_ok {x v : AVal} {xv : Value} (h : aEntry x H = some v) (hx : x.den ρ = some xv) (hr : HRel β ρ H nl w) : VOk P β ρ w (Instr.entry xv) v H nl := by
  unfold aEntry at h
  split at h
  rotate_left
  · cases h
  rename_i r
  split at h
  rotate_left
  · cases h
  rename_i l since seen last rw hgr
  split at h
  rotate_left
  · cases h
  rename_i es cl rw' stamp hgl hst
  cases hq : Nat.beq cl last with
  | false => rw [hq] at h; cases h
  | true =>
    rw [hq] at h
    simp only [cond_true] at h
    obtain rfl := Nat.eq_of_beq_eq_true hq
    split at h
    rotate_left
    · cases h
    rename_i e he
    cases h
    obtain ⟨br, rfl, hbr⟩ := den_ptr0 hx
    obtain ⟨b, hb, hor⟩ := hr.iter hgr hbr
    obtain ⟨xs, hg, hes⟩ := hr.map hgl hb
    obtain ⟨z, hf, hk, hv⟩ := esDen_find (fun n => Nat.beq n stamp) hes he
    have hf' : xs.toArray.find? (fun e => e.born == stamp) = some z := by
      rw [List.find?_toArray, ← hf]
      congr 1
      funext e
      rw [Bool.eq_iff_iff, beq_iff_eq]
      exact ⟨fun h => by rw [h]; exact Nat.beq_refl _, Nat.eq_of_beq_eq_true⟩
    have hbk : seen.toArray.back? = some stamp := by
      rw [← hst]; simp
    refine ⟨ρ, w, .tuple #[z.key, z.val], Env.Le.refl ρ, ?_, by simp only [AVal.den, AVal.denL, hk, hv, Option.map_some], hr⟩
    simp only [Instr.entry, Sem.run_bind, getObj_iter hor, Result.andThen_ok, hbk, getObj_map hg]
    simp [hf']
end
end Go.Vm
