/-
  A machine for abstract states over the model (part 4): operations that leave memory alone.
-/
import Derived.Test.YtgiomdniafpjnaaGreatDoorVm3
import Derived.Lib.Strings
import Derived.Laws.Strings
import Derived.Laws.StructEq
section
namespace Go.Vm

section basics
variable {P : Program} {w : World} {t : TypeId}
theorem run_und {d : TypeDesc} (h : P.underlying t = some d) : (underlying t).run P w = .ok d w := by simp [underlying, h]
theorem run_info {i : TypeInfo} (h : P.info? t = some i) : (typeInfo t).run P w = .ok i w := by simp [typeInfo, h]
theorem run_size {i : TypeInfo} (h : P.info? t = some i) : (sizeOf t).run P w = .ok i.size w := by simp [sizeOf, run_info h]
def aggB : TypeDesc → Bool
  | .struct _ | .array _ _ => true
  | _ => false
theorem run_isAgg {d : TypeDesc} (h : P.underlying t = some d) : (isAgg t).run P w = .ok (aggB d) w := by
  simp only [isAgg, Sem.run_bind, run_und h, Result.andThen_ok]
  cases d <;> rfl
end basics

def AVal.ofPrim : Value → Option AVal
  | .bool b => some (.bool (.lit b))
  | .int k n => some (.int k (.lit n))
  | .string s => some (.str (.lit s.data.toList))
  | .pointer none => some .ptrNil
  | .slice none 0 0 => some .sliceNil
  | .map none => some .mapNil
  | .nilFunc => some .nilFunc
  | .nilIface => some .nilIface
  | .tuple l => match l.toList with
    | [] => some (.tuple [])
    | _ => none
  | _ => none
theorem AVal.ofPrim_den {ρ : Env} {x : Value} {v : AVal} (h : AVal.ofPrim x = some v) : v.den ρ = some x := by
  unfold AVal.ofPrim at h
  split at h <;> first
    | (cases h; done)
    | (cases h; simp [AVal.den, BT.den, IT.den, ST.den]; done)
    | skip
  rename_i l
  split at h
  · rename_i hl
    cases h
    have : l = #[] := by simpa using hl
    subst this; simp [AVal.den, AVal.denL]
  · cases h
def ofPrims : List Value → Option (List AVal)
  | [] => some []
  | x :: r => match AVal.ofPrim x, ofPrims r with
    | some v, some l => some (v :: l)
    | _, _ => none
theorem ofPrims_den {ρ : Env} : ∀ {xs : List Value} {l : List AVal}, ofPrims xs = some l → AVal.denL ρ l = some xs
  | [], l, h => by cases h; rfl
  | x :: r, l, h => by
    simp only [ofPrims] at h
    split at h
    · rename_i v l' hv hl
      cases h
      simp only [AVal.denL, AVal.ofPrim_den hv, ofPrims_den hl]
    · cases h
def AVal.ofVal : Value → Option AVal
  | .agg cs => (ofPrims cs.toList).map AVal.agg
  | .iface t v => (AVal.ofPrim v).map (AVal.iface t)
  | x => AVal.ofPrim x
theorem AVal.ofVal_den {ρ : Env} {x : Value} {v : AVal} (h : AVal.ofVal x = some v) : v.den ρ = some x := by
  unfold AVal.ofVal at h
  split at h
  · obtain ⟨l, hl, rfl⟩ := Option.map_eq_some_iff.1 h
    simp [AVal.den, ofPrims_den hl]
  · obtain ⟨l, hl, rfl⟩ := Option.map_eq_some_iff.1 h
    simp [AVal.den, AVal.ofPrim_den hl]
  · exact AVal.ofPrim_den h

/-- The cells of a value whose make is known. -/
def AVal.cells? : AVal → Option (List AVal)
  | .agg cs => some cs
  | .var _ => none
  | v => some [v]
theorem AVal.cells?_den {ρ : Env} {v : AVal} {l : List AVal} {x : Value} (h : v.cells? = some l) (hx : v.den ρ = some x) : AVal.denL ρ l = some x.cells.toList := by
  unfold AVal.cells? at h
  split at h
  · cases h
    simp only [AVal.den] at hx
    obtain ⟨y, hy, rfl⟩ := Option.map_eq_some_iff.1 hx
    simp [Value.cells, hy]
  · cases h
  · rename_i hagg hvar
    cases h
    have hne : ∀ cs, x ≠ .agg cs := by
      intro cs e; subst e
      cases v <;> simp only [AVal.den] at hx <;> first
        | (exact hagg _ rfl)
        | (exact hvar _ rfl)
        | (cases hx; done)
        | (obtain ⟨y, _, hy⟩ := Option.map_eq_some_iff.1 hx; cases hy; done)
        | (split at hx <;> cases hx)
    have : x.cells = #[x] := by
      cases x <;> first
        | rfl
        | exact absurd rfl (hne _)
    simp [AVal.denL, hx, this]

-- PARTS
def aPart (P : Program) (t : TypeId) (cs : List AVal) (off : Nat) : Option AVal :=
  match P.underlying t with
  | none => none
  | some d => cond (aggB d) (match P.info? t with
    | some i => some (.agg ((cs.drop off).take i.size))
    | none => none) cs[off]?
theorem aPart_ok {P : Program} {ρ : Env} {t : TypeId} {cs : List AVal} {off : Nat} {u : AVal} {c : Array Value} (h : aPart P t cs off = some u) (hc : AVal.denL ρ cs = some c.toList) :
    ∃ y, u.den ρ = some y ∧ ∀ w, (part t c off).run P w = .ok y w := by
  unfold aPart at h
  split at h
  · cases h
  · rename_i d hd
    cases ha : aggB d with
    | true =>
      rw [ha] at h
      simp only [cond_true] at h
      split at h
      · rename_i i hi
        cases h
        refine ⟨.agg ((c.toList.drop off).take i.size).toArray, ?_, fun w => ?_⟩
        · simp only [AVal.den, AVal.denL_take _ (AVal.denL_drop _ hc), Option.map_some]
        · have : c.extract off (off + i.size) = ((c.toList.drop off).take i.size).toArray := by
            apply Array.toList_inj.1; simp [Array.toList_extract, List.take_drop]
          simp [part, run_isAgg hd, ha, run_size hi, this]
      · cases h
    | false =>
      rw [ha] at h
      simp only [cond_false] at h
      obtain ⟨x, hx, hden⟩ := AVal.denL_get hc h
      refine ⟨x, hden, fun w => ?_⟩
      have hx' : c[off]? = some x := by simpa using hx
      simp [part, run_isAgg hd, ha, hx']

def aField (P : Program) (t : TypeId) (x : AVal) (i : Nat) : Option AVal :=
  match x, P.underlying t with
  | .agg cs, some (.struct fs) => match fs.toList[i]? with
    | some f => aPart P f.type cs f.offset
    | none => none
  | _, _ => none
theorem aField_ok {P : Program} {ρ : Env} {t : TypeId} {x u : AVal} {i : Nat} {xv : Value} (h : aField P t x i = some u) (hx : x.den ρ = some xv) :
    ∃ y, u.den ρ = some y ∧ ∀ w, (Instr.field t xv i).run P w = .ok y w := by
  unfold aField at h
  split at h
  · rename_i cs fs hu
    split at h
    · rename_i f hf
      simp only [AVal.den] at hx
      obtain ⟨l, hl, rfl⟩ := Option.map_eq_some_iff.1 hx
      obtain ⟨y, hy, hr⟩ := aPart_ok (c := l.toArray) h (by simpa using hl)
      refine ⟨y, hy, fun w => ?_⟩
      have hf' : fs[i]? = some f := by simpa using hf
      simp [Instr.field, run_und hu, hf', asAgg, hr w]
    · cases h
  · cases h

-- INDEX
def litNat : IT → Option Nat
  | .lit (.ofNat n) => some n
  | _ => none
theorem litNat_den {ρ : Env} {t : IT} {n : Nat} (h : litNat t = some n) : t.den ρ = some (n : Int) := by
  unfold litNat at h
  split at h
  · cases h; rfl
  · cases h
def aIndex (P : Program) (t : TypeId) (x ix : AVal) : Option AVal :=
  match ix with
  | .int _ it => match litNat it with
    | none => none
    | some i => match P.underlying t, x with
      | some (.array len elem), .agg cs => match P.info? elem with
        | some e => cond (Nat.blt i len) (aPart P elem cs (i * e.size)) none
        | none => none
      | some .string, .str (.lit s) => match s[i]? with
        | some b => some (.int .u8 (.lit (.ofNat b.toNat)))
        | none => none
      | _, _ => none
  | _ => none
theorem aIndex_ok {P : Program} {ρ : Env} {t : TypeId} {x ix u : AVal} {xv iv : Value} (h : aIndex P t x ix = some u) (hx : x.den ρ = some xv) (hi : ix.den ρ = some iv) :
    ∃ y, u.den ρ = some y ∧ ∀ w, (Instr.index t xv iv).run P w = .ok y w := by
  unfold aIndex at h
  split at h
  · rename_i k it
    simp only [AVal.den] at hi
    obtain ⟨n, hn, rfl⟩ := Option.map_eq_some_iff.1 hi
    split at h
    · cases h
    · rename_i i hit
      rw [litNat_den hit] at hn; cases hn
      split at h
      · rename_i len elem cs hu
        split at h
        · rename_i e he
          cases hb : Nat.blt i len with
          | false => rw [hb] at h; cases h
          | true =>
            rw [hb] at h; simp only [cond_true] at h
            have hlt : i < len := by rw [Nat.blt_eq] at hb; exact hb
            simp only [AVal.den] at hx
            obtain ⟨l, hl, rfl⟩ := Option.map_eq_some_iff.1 hx
            obtain ⟨y, hy, hr⟩ := aPart_ok (c := l.toArray) h (by simpa using hl)
            refine ⟨y, hy, fun w => ?_⟩
            have h1 : (0 : Int) ≤ (i : Int) ∧ (i : Int) < (len : Int) := by omega
            simp [Instr.index, asIntOf, run_und hu, run_size he, h1, hlt, hr w]
        · cases h
      · rename_i s hu
        split at h
        · rename_i b hb
          cases h
          simp only [AVal.den, ST.den, Option.some.injEq] at hx
          subst hx
          refine ⟨.int .u8 b.toNat, rfl, fun w => ?_⟩
          have hlt : i < s.length := (List.getElem?_eq_some_iff.1 hb).1
          have h2 : (ByteArray.mk s.toArray)[i]? = some b := by
            rw [getElem?_pos (ByteArray.mk s.toArray) i (by show i < s.toArray.size; simpa using hlt)]
            have := (List.getElem?_eq_some_iff.1 hb).2
            show some (s.toArray[i]'(by simpa using hlt)) = some b
            simp [this]
          simp [Instr.index, asIntOf, run_und hu, h2]
        · cases h
      · cases h
  · cases h

-- WHAT LIES IN A TUPLE
def aExtract (x : AVal) (i : Nat) : Option AVal :=
  match x with
  | .tuple vs => vs[i]?
  | _ => none
theorem aExtract_ok {P : Program} {ρ : Env} {x u : AVal} {i : Nat} {xv : Value} (h : aExtract x i = some u) (hx : x.den ρ = some xv) :
    ∃ y, u.den ρ = some y ∧ ∀ w, (Instr.extract xv i).run P w = .ok y w := by
  unfold aExtract at h
  split at h
  · simp only [AVal.den] at hx
    obtain ⟨l, hl, rfl⟩ := Option.map_eq_some_iff.1 hx
    obtain ⟨y, hy, hd⟩ := AVal.denL_get hl h
    refine ⟨y, hd, fun w => ?_⟩
    simp [Instr.extract, hy]
  · cases h

-- INTERFACES
def aMkIface (P : Program) (t : TypeId) (x : AVal) : Option AVal :=
  match P.underlying t with
  | some (.interface _) => none
  | some _ => some (.iface t x)
  | none => none
theorem aMkIface_ok {P : Program} {ρ : Env} {t : TypeId} {x u : AVal} {xv : Value} (h : aMkIface P t x = some u) (hx : x.den ρ = some xv) :
    ∃ y, u.den ρ = some y ∧ ∀ w, (Instr.makeInterface t xv).run P w = .ok y w := by
  unfold aMkIface at h
  split at h
  · cases h
  · rename_i d hd hu
    cases h
    refine ⟨.iface t xv, by simp [AVal.den, hx], fun w => ?_⟩
    simp only [Instr.makeInterface, Sem.run_bind, run_und hu, Result.andThen_ok]
    cases d <;> first
      | rfl
      | exact absurd rfl (hd _)
  · cases h

def aAssert (P : Program) (x : AVal) (asserted : TypeId) (commaOk : Bool) : Option AVal :=
  match P.underlying asserted, x with
  | some (.interface _), _ => none
  | some _, .iface t v => cond (Nat.beq t asserted) (some (cond commaOk (.tuple [v, .bool (.lit true)]) v))
      (cond commaOk (match P.info? asserted with
        | some i => match i.zero.bind AVal.ofVal with
          | some z => some (.tuple [z, .bool (.lit false)])
          | none => none
        | none => none) none)
  | _, _ => none
theorem aAssert_ok {P : Program} {ρ : Env} {x u : AVal} {xt as : TypeId} {c : Bool} {xv : Value} (h : aAssert P x as c = some u) (hx : x.den ρ = some xv) :
    ∃ y, u.den ρ = some y ∧ ∀ w, (Instr.typeAssert xv xt as c).run P w = .ok y w := by
  unfold aAssert at h
  split at h
  · cases h
  · rename_i d t v hd hu
    simp only [AVal.den] at hx
    obtain ⟨y, hy, rfl⟩ := Option.map_eq_some_iff.1 hx
    cases hb : Nat.beq t as with
    | true =>
      rw [hb] at h; simp only [cond_true] at h
      have hte : t = as := Nat.eq_of_beq_eq_true hb
      subst hte
      cases h
      refine ⟨if c then .tuple #[y, .bool true] else y, ?_, fun w => ?_⟩
      · cases c <;> simp [AVal.den, AVal.denL, hy, BT.den]
      · simp only [Instr.typeAssert, Sem.run_bind, run_und hu, Result.andThen_ok]
        cases d <;> first
          | (simp; done)
          | exact absurd rfl (hd _)
    | false =>
      rw [hb] at h
      have hte : t ≠ as := fun e => by subst e; rw [Nat.beq_refl] at hb; cases hb
      cases c with
      | false => cases h
      | true =>
        simp only [cond_false, cond_true] at h
        split at h
        · rename_i i hi
          split at h
          · rename_i z hz
            cases h
            obtain ⟨zv, hz1, hz2⟩ := Option.bind_eq_some_iff.1 hz
            refine ⟨.tuple #[zv, .bool false], by simp [AVal.den, AVal.denL, BT.den, AVal.ofVal_den hz2], fun w => ?_⟩
            have hzr : (zeroValue as).run P w = .ok zv w := by simp [zeroValue, run_info hi, hz1]
            simp only [Instr.typeAssert, Sem.run_bind, run_und hu, Result.andThen_ok]
            cases d <;> first
              | (simp [hte, hzr]; done)
              | exact absurd rfl (hd _)
          · cases h
        · cases h
  · cases h

end Go.Vm
end

/-
  A machine for abstract states over the model (part 5): operators.
-/
section
namespace Go.Vm

def isShift : BinOp → Bool
  | .shl | .shr => true
  | _ => false

def BT.beq : BT → BT → Bool
  | .lit a, .lit b => a == b
  | .var i, .var j => Nat.beq i j
  | .cmp o a b, .cmp o' c d => decide (o = o') && IT.beq a c && IT.beq b d
  | .not a, .not b => BT.beq a b
  | .seq a b, .seq c d => ST.beq a c && ST.beq b d
  | .and a b, .and c d => BT.beq a c && BT.beq b d
  | _, _ => false
theorem BT.beq_eq : ∀ {a b : BT}, BT.beq a b = true → a = b := by
  intro a
  induction a with
  | lit x => intro b h; cases b <;> simp [BT.beq] at h; rw [h]
  | var i => intro b h; cases b <;> simp [BT.beq] at h; rw [h]
  | cmp o a b =>
    intro c h
    cases c <;> simp [BT.beq] at h
    obtain ⟨⟨rfl, h1⟩, h2⟩ := h
    rw [IT.beq_eq h1, IT.beq_eq h2]
  | not a iha => intro c h; cases c <;> simp [BT.beq] at h; rw [iha h]
  | seq a b => intro c h; cases c <;> simp [BT.beq] at h; rw [ST.beq_eq h.1, ST.beq_eq h.2]
  | and a b iha ihb => intro c h; cases c <;> simp [BT.beq] at h; rw [iha h.1, ihb h.2]

def mkSeq (a b : ST) : BT :=
  cond (ST.beq a b) (.lit true) (match a, b with
  | .lit x, .lit y => .lit (x == y)
  | a, b => .seq a b)
theorem mkSeq_den {ρ : Env} (a b : ST) : (mkSeq a b).den ρ = some ((a.den ρ).toList == (b.den ρ).toList) := by
  unfold mkSeq
  cases hb : ST.beq a b with
  | true => rw [ST.beq_eq hb]; simp [BT.den]
  | false =>
    simp only [cond_false]
    split
    · rename_i x y
      simp [BT.den, ST.den, ByteArray.toList_eq]
    · rfl

/-- A sum of two texts, and what must hold that it is one. -/
def mkCat (a b : ST) : ST × List BT :=
  match a, b with
  | .lit x, .lit y => (.lit (x ++ y), [.cmp .leq (.slen (.lit (x ++ y))) (.lit 9223372036854775807)])
  | a, b => (.cat a b, [.cmp .leq (.slen (.cat a b)) (.lit 9223372036854775807)])
theorem mkCat_den {ρ : Env} (a b : ST) : (mkCat a b).1.den ρ = a.den ρ ++ b.den ρ := by
  unfold mkCat
  split
  · rename_i x y
    simp only [ST.den]
    apply ByteArray.ext; simp
  · rfl
theorem mkCat_must {ρ : Env} (a b : ST) (h : ∀ c ∈ (mkCat a b).2, c.den ρ = some true) : ((a.den ρ).size + (b.den ρ).size : Nat) ≤ 9223372036854775807 := by
  have h1 := mkCat_den (ρ := ρ) a b
  unfold mkCat at h h1
  split at h
  · rename_i x y
    have := h _ (List.mem_singleton.2 rfl)
    simp only [BT.den, IT.den, intCmp, Option.some.injEq, decide_eq_true_eq, ST.den] at this
    simp [ByteArray.size, ST.den] at this ⊢
    omega
  · rename_i x y
    have := h _ (List.mem_singleton.2 rfl)
    simp only [BT.den, IT.den, intCmp, Option.some.injEq, decide_eq_true_eq, ST.den, ByteArray.size_append] at this
    omega

/-- A value of an interface type or none, a pointer or none: is it none? -/
def isNil : AVal → Option Bool
  | .ptrNil | .sliceNil | .mapNil | .nilFunc | .nilIface => some true
  | .ptr .. | .slice .. | .map _ | .iface .. => some false
  | .func (.func _) _ _ => some false
  | _ => none

def cmpNil (P : Program) (t : TypeId) (x y : AVal) : Option Bool :=
  match P.underlying t, x, y with
  | some (.pointer _), .ptrNil, .ptrNil => some true
  | some (.pointer _), .ptr .., .ptrNil => some false
  | some (.pointer _), .ptrNil, .ptr .. => some false
  | some (.slice _), .sliceNil, .sliceNil => some true
  | some (.slice _), .slice .., .sliceNil => some false
  | some (.slice _), .sliceNil, .slice .. => some false
  | some (.map _ _), .mapNil, .mapNil => some true
  | some (.map _ _), .map _, .mapNil => some false
  | some (.func _ _ _), .nilFunc, .nilFunc => some true
  | some (.func _ _ _), .func .., .nilFunc => some false
  | some (.interface _), .nilIface, .iface .. => some false
  | some (.interface _), .iface .., .nilIface => some false
  | some .bool, .bool (.lit a), .bool (.lit b) => some (a == b)
  | some (.pointer e), .ptr l (.lit (.ofNat o)), .ptr l' (.lit (.ofNat o')) => match P.info? e with
    | some i => cond (Nat.beq l l' && !Nat.beq i.size 0) (some (Nat.beq o o')) none
    | none => none
  | _, _, _ => none

theorem map_some {α β : Type} {o : Option α} {f : α → β} {b : β} (h : o.map f = some b) : ∃ a, o = some a ∧ b = f a := by
  obtain ⟨a, ha, hb⟩ := Option.map_eq_some_iff.1 h; exact ⟨a, ha, hb.symm⟩

theorem den_ptr {ρ : Env} {l : Nat} {off : IT} {x : Value} (h : (AVal.ptr l off).den ρ = some x) : ∃ b o, x = .pointer (some ⟨b, o, none⟩) ∧ ρ.N l = some b ∧ off.den ρ = some (Int.ofNat o) := by
  simp only [AVal.den] at h
  split at h
  · rename_i b o hb ho
    cases h; exact ⟨b, o, rfl, hb, natOf_some ho⟩
  · cases h
theorem den_slice {ρ : Env} {l : Nat} {off len cap : IT} {x : Value} (h : (AVal.slice l off len cap).den ρ = some x) :
    ∃ b o n c, x = .slice (some ⟨b, o, none⟩) n c ∧ ρ.N l = some b ∧ off.den ρ = some (Int.ofNat o) ∧ len.den ρ = some (Int.ofNat n) ∧ cap.den ρ = some (Int.ofNat c) := by
  simp only [AVal.den] at h
  split at h
  · rename_i b o n c hb ho hn hc
    cases h; exact ⟨b, o, n, c, rfl, hb, natOf_some ho, natOf_some hn, natOf_some hc⟩
  · cases h
theorem den_map {ρ : Env} {l : Nat} {x : Value} (h : (AVal.map l).den ρ = some x) : ∃ b, x = .map (some b) ∧ ρ.N l = some b := by
  simp only [AVal.den] at h
  obtain ⟨b, hb, rfl⟩ := map_some h
  exact ⟨b, rfl, hb⟩
theorem den_func {ρ : Env} {fn : Fn} {a b : List AVal} {x : Value} (h : (AVal.func fn a b).den ρ = some x) :
    ∃ xs ys, x = .func fn xs.toArray ys.toArray ∧ AVal.denL ρ a = some xs ∧ AVal.denL ρ b = some ys := by
  simp only [AVal.den] at h
  split at h
  · rename_i xs ys hx hy
    cases h; exact ⟨xs, ys, rfl, hx, hy⟩
  · cases h
theorem den_iface {ρ : Env} {t : TypeId} {v : AVal} {x : Value} (h : (AVal.iface t v).den ρ = some x) : ∃ y, x = .iface t y ∧ v.den ρ = some y := by
  simp only [AVal.den] at h
  obtain ⟨b, hb, rfl⟩ := map_some h
  exact ⟨b, rfl, hb⟩
theorem den_int {ρ : Env} {k : IntKind} {t : IT} {x : Value} (h : (AVal.int k t).den ρ = some x) : ∃ n, x = .int k n ∧ t.den ρ = some n := by
  simp only [AVal.den] at h
  obtain ⟨b, hb, rfl⟩ := map_some h
  exact ⟨b, rfl, hb⟩
theorem den_bool {ρ : Env} {t : BT} {x : Value} (h : (AVal.bool t).den ρ = some x) : ∃ n, x = .bool n ∧ t.den ρ = some n := by
  simp only [AVal.den] at h
  obtain ⟨b, hb, rfl⟩ := map_some h
  exact ⟨b, rfl, hb⟩
theorem den_litb {ρ : Env} {b : Bool} {x : Value} (h : (AVal.bool (.lit b)).den ρ = some x) : x = .bool b := by
  simp only [AVal.den, BT.den, Option.map_some, Option.some.injEq] at h; exact h.symm
theorem den_agg {ρ : Env} {l : List AVal} {x : Value} (h : (AVal.agg l).den ρ = some x) : ∃ xs, x = .agg xs.toArray ∧ AVal.denL ρ l = some xs := by
  simp only [AVal.den] at h
  obtain ⟨b, hb, rfl⟩ := map_some h
  exact ⟨b, rfl, hb⟩
theorem den_tuple {ρ : Env} {l : List AVal} {x : Value} (h : (AVal.tuple l).den ρ = some x) : ∃ xs, x = .tuple xs.toArray ∧ AVal.denL ρ l = some xs := by
  simp only [AVal.den] at h
  obtain ⟨b, hb, rfl⟩ := map_some h
  exact ⟨b, rfl, hb⟩
theorem den_ptrNil {ρ : Env} {x : Value} (h : AVal.ptrNil.den ρ = some x) : x = .pointer none := by simp only [AVal.den, Option.some.injEq] at h; exact h.symm
theorem den_sliceNil {ρ : Env} {x : Value} (h : AVal.sliceNil.den ρ = some x) : x = .slice none 0 0 := by simp only [AVal.den, Option.some.injEq] at h; exact h.symm
theorem den_mapNil {ρ : Env} {x : Value} (h : AVal.mapNil.den ρ = some x) : x = .map none := by simp only [AVal.den, Option.some.injEq] at h; exact h.symm
theorem den_nilFunc {ρ : Env} {x : Value} (h : AVal.nilFunc.den ρ = some x) : x = .nilFunc := by simp only [AVal.den, Option.some.injEq] at h; exact h.symm
theorem den_nilIface {ρ : Env} {x : Value} (h : AVal.nilIface.den ρ = some x) : x = .nilIface := by simp only [AVal.den, Option.some.injEq] at h; exact h.symm

theorem nat_of_some' {ρ : Env} {a b : Nat} (h : (IT.lit (Int.ofNat a)).den ρ = some (Int.ofNat b)) : a = b := by simp only [IT.den, Option.some.injEq] at h; exact Int.ofNat.inj h
theorem cmpNil_in {P : Program} {ρ : Env} {t : TypeId} {x y : AVal} {r : Bool} {xv yv : Value} (h : cmpNil P t x y = some r) (hx : x.den ρ = some xv) (hy : y.den ρ = some yv) (w : World) (d : Nat) :
    (Op.equalIn (d + 1) t xv yv).run P w = .ok r w ∧ (∀ op ox oy, (eqGuard op t ox oy xv yv).run P w = .ok () w) ∧
    (binOp .eql t xv yv = (do pure (.bool (← Op.equal t xv yv)))) ∧ (binOp .neq t xv yv = (do pure (.bool (!(← Op.equal t xv yv))))) := by
  unfold cmpNil at h
  split at h
  rotate_right 2
  · rename_i e l o l' o' hu
    split at h
    · rename_i i hi
      cases hc : (Nat.beq l l' && !Nat.beq i.size 0) with
      | false => rw [hc] at h; cases h
      | true =>
        rw [hc] at h; simp only [cond_true, Option.some.injEq] at h
        subst h
        simp only [Bool.and_eq_true] at hc
        have hl := Nat.eq_of_beq_eq_true hc.1
        subst hl
        have hz : i.size ≠ 0 := fun e => by rw [e] at hc; simp at hc
        obtain ⟨b, q, rfl, hb, hq⟩ := den_ptr hx
        obtain ⟨b', q', rfl, hb', hq'⟩ := den_ptr hy
        rw [hb] at hb'; cases hb'
        obtain rfl := nat_of_some' hq
        obtain rfl := nat_of_some' hq'
        have hbq : (({ block := b, off := o } : Addr) == { block := b, off := o' }) = Nat.beq o o' := by
          rw [Bool.eq_iff_iff, nat_beq_iff]; simp
        refine ⟨?_, ?_, rfl, rfl⟩
        · simp [Op.equalIn, run_und hu, run_size hi, hz, sameAddr, hbq]
        · intro op ox oy
          cases op <;> simp [eqGuard]
    · cases h
  · cases h
  all_goals
    rename_i hu
    injection h with h
    subst h
    first
      | obtain rfl := den_ptrNil hx
      | obtain ⟨_, _, rfl, _⟩ := den_ptr hx
      | obtain rfl := den_sliceNil hx
      | obtain ⟨_, _, _, _, rfl, _⟩ := den_slice hx
      | obtain rfl := den_mapNil hx
      | obtain ⟨_, rfl, _⟩ := den_map hx
      | obtain rfl := den_nilFunc hx
      | obtain ⟨_, _, rfl, _⟩ := den_func hx
      | obtain rfl := den_nilIface hx
      | obtain ⟨_, rfl, _⟩ := den_iface hx
      | obtain rfl := den_litb hx
    first
      | obtain rfl := den_ptrNil hy
      | obtain ⟨_, _, rfl, _⟩ := den_ptr hy
      | obtain rfl := den_sliceNil hy
      | obtain ⟨_, _, _, _, rfl, _⟩ := den_slice hy
      | obtain rfl := den_mapNil hy
      | obtain ⟨_, rfl, _⟩ := den_map hy
      | obtain rfl := den_nilFunc hy
      | obtain ⟨_, _, rfl, _⟩ := den_func hy
      | obtain rfl := den_nilIface hy
      | obtain ⟨_, rfl, _⟩ := den_iface hy
      | obtain rfl := den_litb hy
    refine ⟨?_, ?_, rfl, rfl⟩
    · simp [Op.equalIn, run_und hu]
    · intro op ox oy
      cases op <;> simp [eqGuard]
theorem cmpNil_ok {P : Program} {ρ : Env} {t : TypeId} {x y : AVal} {r : Bool} {xv yv : Value} (h : cmpNil P t x y = some r) (hx : x.den ρ = some xv) (hy : y.den ρ = some yv) (w : World) :
    (∀ op ox oy, (eqGuard op t ox oy xv yv).run P w = .ok () w) ∧ (binOp .eql t xv yv).run P w = .ok (.bool r) w ∧ (binOp .neq t xv yv).run P w = .ok (.bool (!r)) w := by
  obtain ⟨h1, g1, h3, h4⟩ := cmpNil_in h hx hy w 9999
  have h1' : (Op.equal t xv yv).run P w = .ok r w := h1
  exact ⟨g1, by rw [h3]; simp [h1'], by rw [h4]; simp [h1']⟩

-- VALUES OF PARTS
def mkBEq (a b : BT) : Option BT :=
  cond (BT.beq a b) (some (.lit true)) (match a, b with
  | .lit true, b => some b
  | .lit false, b => some (mkNot b)
  | a, .lit true => some a
  | a, .lit false => some (mkNot a)
  | a, b => some (.not (.and (.not (.and a b)) (.not (.and (.not a) (.not b))))))
theorem mkBEq_den {ρ : Env} {a b t : BT} {x y : Bool} (h : mkBEq a b = some t) (ha : a.den ρ = some x) (hb : b.den ρ = some y) : t.den ρ = some (x == y) := by
  unfold mkBEq at h
  cases hb' : BT.beq a b with
  | true =>
    rw [hb'] at h
    cases h
    rw [BT.beq_eq hb'] at ha
    rw [ha] at hb; cases hb
    simp [BT.den]
  | false =>
  rw [hb'] at h
  simp only [cond_false] at h
  split at h
  · cases h; cases ha; simpa using hb
  · cases h; cases ha; rw [mkNot_den hb]; simp
  · cases h; cases hb; simpa using ha
  · cases h; cases hb; rw [mkNot_den ha]; simp
  · cases h
    simp only [BT.den, ha, hb, Option.map_some]
    cases x <;> cases y <;> rfl
mutual
def aEq (P : Program) : Nat → TypeId → AVal → AVal → Option BT
  | 0, _, _, _ => none
  | d + 1, t, x, y => match P.underlying t, x, y with
    | some .bool, .bool a, .bool b => mkBEq a b
    | some (.int _), .int k a, .int k' b => cond (decide (k = k')) (mkCmp .eql a b) none
    | some .string, .str a, .str b => some (mkSeq a b)
    | some (.struct fs), .agg xs, .agg ys => cond (P.stoodInHeld t) none (aEqF P d xs ys fs.toList)
    | some (.interface _), .iface tx a, .iface ty b => cond (Nat.beq tx ty) (match P.info? tx with
      | some i => cond i.comparable (aEq P d tx a b) none
      | none => none) (some (.lit false))
    | _, _, _ => none
def aEqF (P : Program) : Nat → List AVal → List AVal → List Field → Option BT
  | 0, _, _, _ => none
  | _ + 1, _, _, [] => some (.lit true)
  | d + 1, xs, ys, f :: fs => cond (f.name == "_") none (match aPart P f.type xs f.offset, aPart P f.type ys f.offset with
    | some a, some b => match aEq P d f.type a b, aEqF P d xs ys fs with
      | some p, some q => some (mkAnd p q)
      | _, _ => none
    | _, _ => none)
end
theorem aEq_ok {P : Program} {ρ : Env} {w : World} : ∀ (d : Nat),
    (∀ (D : Nat) (t : TypeId) (x y : AVal) (p : BT) (xv yv : Value), aEq P d t x y = some p → d ≤ D → x.den ρ = some xv → y.den ρ = some yv → ∃ z, p.den ρ = some z ∧ (Op.equalIn D t xv yv).run P w = .ok z w) ∧
    (∀ (D : Nat) (fs : List Field) (xs ys : List AVal) (p : BT) (xv yv : List Value), aEqF P d xs ys fs = some p → d ≤ D → AVal.denL ρ xs = some xv → AVal.denL ρ ys = some yv → ∃ z, p.den ρ = some z ∧ (Op.eqFields D xv.toArray yv.toArray fs).run P w = .ok z w) := by
  intro d
  induction d with
  | zero => exact ⟨fun D t x y p xv yv h => by simp [aEq] at h, fun D fs xs ys p xv yv h => by simp [aEqF] at h⟩
  | succ d ih =>
    refine ⟨fun D t x y p xv yv h hD hx hy => ?_, fun D fs xs ys p xv yv h hD hx hy => ?_⟩
    · obtain ⟨D, rfl⟩ : ∃ E, D = E + 1 := ⟨D - 1, by omega⟩
      simp only [aEq] at h
      split at h
      · rename_i a b hu
        obtain ⟨u, rfl, hu'⟩ := den_bool hx
        obtain ⟨v, rfl, hv'⟩ := den_bool hy
        exact ⟨_, mkBEq_den h hu' hv', run_equalIn_bool' w D t u v hu⟩
      · rename_i k0 k a k' b hu
        simp only [AVal.den] at hx hy
        obtain ⟨m, hm1, rfl⟩ := map_some hx
        obtain ⟨n, hn1, rfl⟩ := map_some hy
        by_cases hk : k = k'
        · subst hk
          simp only [decide_true, cond_true] at h
          obtain ⟨z, hz1, hz2⟩ := mkCmp_den h hm1 hn1
          simp only [intCmp, Option.some.injEq] at hz2
          subst hz2
          exact ⟨_, hz1, run_equalIn_int w D t k k0 m n hu⟩
        · simp [hk] at h
      · rename_i a b hu
        simp only [AVal.den, Option.some.injEq] at hx hy
        subst hx; subst hy
        cases h
        exact ⟨_, mkSeq_den a b, run_equalIn_string w D t _ _ hu⟩
      · rename_i fs xs ys hu
        simp only [AVal.den] at hx hy
        obtain ⟨m, hm1, rfl⟩ := map_some hx
        obtain ⟨n, hn1, rfl⟩ := map_some hy
        cases hs : P.stoodInHeld t with
        | true => rw [hs] at h; cases h
        | false =>
          rw [hs] at h; simp only [cond_false] at h
          have hf : P.fieldsOf t = fs := by simp [Program.fieldsOf, hu]
          rw [run_equalIn_struct w D t _ _ (by rw [hf]; exact hu) hs, hf]
          exact ih.2 D fs.toList xs ys p m n h (by omega) hm1 hn1
      · rename_i ms tx a ty b hu
        obtain ⟨av, rfl, ha⟩ := den_iface hx
        obtain ⟨bv, rfl, hb⟩ := den_iface hy
        cases ht : Nat.beq tx ty with
        | false =>
          rw [ht] at h; cases h
          have hne : tx ≠ ty := fun e => by subst e; simp at ht
          exact ⟨false, rfl, by simp [Op.equalIn, run_und hu, hne]⟩
        | true =>
          rw [ht] at h; simp only [cond_true] at h
          obtain rfl := Nat.eq_of_beq_eq_true ht
          split at h
          · rename_i i hi
            cases hcm : i.comparable with
            | false => rw [hcm] at h; cases h
            | true =>
              rw [hcm] at h; simp only [cond_true] at h
              obtain ⟨z, hz, hr⟩ := ih.1 D tx a b p av bv h (by omega) ha hb
              exact ⟨z, hz, by simp [Op.equalIn, run_und hu, run_info hi, hcm, hr]⟩
          · cases h
      · cases h
    · cases fs with
      | nil =>
        simp only [aEqF, Option.some.injEq] at h
        subst h
        exact ⟨true, rfl, by simp [Op.eqFields]⟩
      | cons f fs =>
        simp only [aEqF] at h
        cases hn : f.name == "_" with
        | true => rw [hn] at h; cases h
        | false =>
          rw [hn] at h; simp only [cond_false] at h
          split at h
          · rename_i a b ha hb
            split at h
            · rename_i p1 q1 hp hq
              cases h
              obtain ⟨av, had, har⟩ := aPart_ok (c := xv.toArray) ha (by simpa using hx)
              obtain ⟨bv, hbd, hbr⟩ := aPart_ok (c := yv.toArray) hb (by simpa using hy)
              obtain ⟨z1, hz1, hr1⟩ := ih.1 D f.type a b p1 av bv hp (by omega) had hbd
              obtain ⟨z2, hz2, hr2⟩ := ih.2 D fs xs ys q1 xv yv hq (by omega) hx hy
              refine ⟨z1 && z2, mkAnd_den hz1 hz2, ?_⟩
              have hne : f.name ≠ "_" := by simpa using hn
              simp only [Op.eqFields, hne, ne_eq, not_false_eq_true, if_true, Sem.run_bind, har w, hbr w, hr1, Result.andThen_ok]
              cases z1 <;> simp [hr2]
            · cases h
          · cases h

/-- Division by what is no number: it must not be 0. -/
def mkDiv (op : BinOp) (k : IntKind) (a b : IT) : Option (AVal × List BT) := match op with
  | .quo => some (.int k (.bin .quo k a b), [.cmp .neq b (.lit 0)])
  | .rem => some (.int k (.bin .rem k a b), [.cmp .neq b (.lit 0)])
  | _ => none
theorem mkDiv_den {ρ : Env} {op : BinOp} {k : IntKind} {a b : IT} {u : AVal} {mu : List BT} {x y : Int} (h : mkDiv op k a b = some (u, mu)) (ha : a.den ρ = some x) (hb : b.den ρ = some y) (hm : ∀ c ∈ mu, c.den ρ = some true) :
    ∃ z, u.den ρ = some (.int k z) ∧ intBin op k x y = some z := by
  unfold mkDiv at h
  split at h
  · cases h
    have h0 := hm _ List.mem_cons_self
    simp only [BT.den, hb, IT.den, intCmp, Option.some.injEq, bne_iff_ne, ne_eq] at h0
    exact ⟨_, by simp only [AVal.den, IT.den, ha, hb, intBin, if_neg h0, Option.map_some]; rfl, by simp only [intBin, if_neg h0]⟩
  · cases h
    have h0 := hm _ List.mem_cons_self
    simp only [BT.den, hb, IT.den, intCmp, Option.some.injEq, bne_iff_ne, ne_eq] at h0
    exact ⟨_, by simp only [AVal.den, IT.den, ha, hb, intBin, if_neg h0, Option.map_some]; rfl, by simp only [intBin, if_neg h0]⟩
  · cases h
def aBin (P : Program) (op : BinOp) (t : TypeId) (x y : AVal) : Option (AVal × List BT) :=
  match x, y with
  | .int k a, .int k' b =>
    cond (isShift op) ((mkBin op k a b).map fun t => (.int k t, []))
      (cond (decide (k = k')) (cond (isArith op) (match mkBin op k a b with
        | some t => some (.int k t, [])
        | none => mkDiv op k a b) ((mkCmp op a b).map fun t => (.bool t, []))) none)
  | .str a, .str b => match op with
    | .add => some (.str (mkCat a b).1, (mkCat a b).2)
    | .eql => some (.bool (mkSeq a b), [])
    | .neq => some (.bool (mkNot (mkSeq a b)), [])
    | _ => none
  | .bool a, .bool b => match op with
    | .eql => (aEq P 100 t (.bool a) (.bool b)).map fun u => (.bool u, [])
    | .neq => (aEq P 100 t (.bool a) (.bool b)).map fun u => (.bool (mkNot u), [])
    | _ => none
  | .agg xs, .agg ys => cond (P.eqGuardType P.depth t) none (match op with
    | .eql => (aEq P 100 t (.agg xs) (.agg ys)).map fun u => (.bool u, [])
    | .neq => (aEq P 100 t (.agg xs) (.agg ys)).map fun u => (.bool (mkNot u), [])
    | _ => none)
  | .iface tx a, .iface ty b => match op with
    | .eql => (aEq P 100 t (.iface tx a) (.iface ty b)).map fun u => (.bool u, [])
    | .neq => (aEq P 100 t (.iface tx a) (.iface ty b)).map fun u => (.bool (mkNot u), [])
    | _ => none
  | x, y => match op with
    | .eql => (cmpNil P t x y).map fun b => (.bool (.lit b), [])
    | .neq => (cmpNil P t x y).map fun b => (.bool (.lit (!b)), [])
    | _ => none

theorem eqGuard_int {P : Program} {w : World} {op : BinOp} {t : TypeId} {ox oy : Operand} {k k' : IntKind} {m n : Int} :
    (eqGuard op t ox oy (.int k m) (.int k' n)).run P w = .ok () w := by cases op <;> simp [eqGuard]
theorem eqGuard_str {P : Program} {w : World} {op : BinOp} {t : TypeId} {ox oy : Operand} {a b : ByteArray} :
    (eqGuard op t ox oy (.string a) (.string b)).run P w = .ok () w := by cases op <;> simp [eqGuard]

theorem binOp_int {P : Program} {w : World} {op : BinOp} {t : TypeId} {k : IntKind} {m n z : Int} (hz : intBin op k m n = some z) :
    (binOp op t (.int k m) (.int k n)).run P w = .ok (.int k z) w := by
  cases op <;> simp only [intBin] at hz <;> first
    | (cases hz; done)
    | (cases hz; simp [binOp, Op.intArith, Op.intBits]; done)
    | (split at hz
       · cases hz
       · rename_i h0; cases hz; simp [binOp, Op.intDiv, Op.shift, h0])
theorem binOp_shift {P : Program} {w : World} {op : BinOp} {t : TypeId} {k k' : IntKind} {m n z : Int} (hs : isShift op = true) (hz : intBin op k m n = some z) :
    (binOp op t (.int k m) (.int k' n)).run P w = .ok (.int k z) w := by
  cases op <;> first
    | (cases hs; done)
    | (simp only [intBin] at hz
       split at hz
       · cases hz
       · rename_i h0; cases hz; simp [binOp, Op.shift, h0])
theorem binOp_cmp {P : Program} {w : World} {op : BinOp} {t : TypeId} {k : IntKind} {m n : Int} {z : Bool} (hz : intCmp op m n = some z) :
    (binOp op t (.int k m) (.int k n)).run P w = .ok (.bool z) w := by
  cases op <;> simp only [intCmp] at hz <;> first
    | (cases hz; done)
    | (cases hz; simp [binOp, Op.intCmp]; done)

theorem aBin_ok {P : Program} {ρ : Env} {op : BinOp} {t : TypeId} {x y u : AVal} {mu : List BT} {xv yv : Value} (h : aBin P op t x y = some (u, mu)) (hx : x.den ρ = some xv) (hy : y.den ρ = some yv)
    (hm : ∀ c ∈ mu, c.den ρ = some true) :
    ∃ z, u.den ρ = some z ∧ ∀ w ox oy, (do eqGuard op t ox oy xv yv; binOp op t xv yv : Sem Value).run P w = .ok z w := by
  unfold aBin at h
  split at h
  · rename_i k a k' b
    simp only [AVal.den] at hx hy
    obtain ⟨m, hm1, rfl⟩ := map_some hx
    obtain ⟨n, hn1, rfl⟩ := map_some hy
    cases hs : isShift op with
    | true =>
      rw [hs] at h; simp only [cond_true] at h
      obtain ⟨q, hq, he⟩ := map_some h
      cases he
      obtain ⟨z, hz1, hz2⟩ := mkBin_den hq hm1 hn1
      refine ⟨.int k z, by simp [AVal.den, hz1], fun w ox oy => ?_⟩
      simp [eqGuard_int, binOp_shift hs hz2]
    | false =>
      rw [hs] at h; simp only [cond_false] at h
      by_cases hk : k = k'
      · subst hk
        simp only [decide_true, cond_true] at h
        cases ha : isArith op with
        | true =>
          rw [ha] at h; simp only [cond_true] at h
          split at h
          · rename_i q hq
            cases h
            obtain ⟨z, hz1, hz2⟩ := mkBin_den hq hm1 hn1
            refine ⟨.int k z, by simp [AVal.den, hz1], fun w ox oy => ?_⟩
            simp [eqGuard_int, binOp_int hz2]
          · obtain ⟨z, hz1, hz2⟩ := mkDiv_den h hm1 hn1 hm
            refine ⟨.int k z, hz1, fun w ox oy => ?_⟩
            simp [eqGuard_int, binOp_int hz2]
        | false =>
          rw [ha] at h; simp only [cond_false] at h
          obtain ⟨q, hq, he⟩ := map_some h
          cases he
          obtain ⟨z, hz1, hz2⟩ := mkCmp_den hq hm1 hn1
          refine ⟨.bool z, by simp [AVal.den, hz1], fun w ox oy => ?_⟩
          simp [eqGuard_int, binOp_cmp hz2]
      · simp [hk] at h
  · rename_i a b
    simp only [AVal.den, Option.some.injEq] at hx hy
    subst hx; subst hy
    split at h
    · cases h
      have hsz := mkCat_must a b hm
      refine ⟨.string (a.den ρ ++ b.den ρ), by simp [AVal.den, mkCat_den], fun w ox oy => ?_⟩
      have hle : ¬ ((((a.den ρ).size + (b.den ρ).size : Nat) : Int) > IntKind.i64.max) := by
        have : IntKind.i64.max = 9223372036854775807 := by decide
        omega
      simp only [Sem.run_bind, eqGuard_str, Result.andThen_ok, binOp, Op.stringOp, if_neg hle, Sem.run_pure]
    · cases h
      exact ⟨.bool ((a.den ρ).toList == (b.den ρ).toList), by simp [AVal.den, mkSeq_den], fun w ox oy => by simp [eqGuard_str, binOp, Op.stringOp]⟩
    · cases h
      exact ⟨.bool (!((a.den ρ).toList == (b.den ρ).toList)), by simp only [AVal.den, mkNot_den (mkSeq_den a b), Option.map_some], fun w ox oy => by simp only [Sem.run_bind, eqGuard_str, Result.andThen_ok, binOp, Op.stringOp, Sem.run_pure]⟩
    · cases h
  · rename_i a b
    obtain ⟨u, rfl, hu'⟩ := den_bool hx
    obtain ⟨v, rfl, hv'⟩ := den_bool hy
    split at h
    · obtain ⟨r, hr, he⟩ := map_some h
      cases he
      obtain ⟨z, hz⟩ : ∃ z, r.den ρ = some z := by
        obtain ⟨z, hz, _⟩ := (aEq_ok (w := (default : World)) 100).1 10000 t _ _ r _ _ hr (by omega) hx hy
        exact ⟨z, hz⟩
      refine ⟨.bool z, by simp [AVal.den, hz], fun w ox oy => ?_⟩
      obtain ⟨z', hz', hrun⟩ := (aEq_ok (w := w) 100).1 10000 t _ _ r _ _ hr (by omega) hx hy
      rw [hz] at hz'; cases hz'
      simp [eqGuard, binOp, Op.equal, Op.maxDepth, hrun]
    · obtain ⟨r, hr, he⟩ := map_some h
      cases he
      obtain ⟨z, hz⟩ : ∃ z, r.den ρ = some z := by
        obtain ⟨z, hz, _⟩ := (aEq_ok (w := (default : World)) 100).1 10000 t _ _ r _ _ hr (by omega) hx hy
        exact ⟨z, hz⟩
      refine ⟨.bool (!z), by simp [AVal.den, mkNot_den hz], fun w ox oy => ?_⟩
      obtain ⟨z', hz', hrun⟩ := (aEq_ok (w := w) 100).1 10000 t _ _ r _ _ hr (by omega) hx hy
      rw [hz] at hz'; cases hz'
      simp [eqGuard, binOp, Op.equal, Op.maxDepth, hrun]
    · cases h
  · rename_i xs ys
    cases hg : P.eqGuardType P.depth t with
    | true => rw [hg] at h; cases h
    | false =>
      rw [hg] at h; simp only [cond_false] at h
      have hx0 := hx; have hy0 := hy
      simp only [AVal.den] at hx hy
      obtain ⟨m, hm1, rfl⟩ := map_some hx
      obtain ⟨n, hn1, rfl⟩ := map_some hy
      split at h
      · obtain ⟨r, hr, he⟩ := map_some h
        cases he
        obtain ⟨z, hz⟩ : ∃ z, r.den ρ = some z := by
          obtain ⟨z, hz, _⟩ := (aEq_ok (w := (default : World)) 100).1 10000 t _ _ r _ _ hr (by omega) hx0 hy0
          exact ⟨z, hz⟩
        refine ⟨.bool z, by simp [AVal.den, hz], fun w ox oy => ?_⟩
        obtain ⟨z', hz', hrun⟩ := (aEq_ok (w := w) 100).1 10000 t _ _ r _ _ hr (by omega) hx0 hy0
        rw [hz] at hz'; cases hz'
        simp only [Sem.run_bind, run_eqGuard_agg w _ _ _ _ _ _ hg, Result.andThen_ok, run_eql_struct, hrun]
      · obtain ⟨r, hr, he⟩ := map_some h
        cases he
        obtain ⟨z, hz⟩ : ∃ z, r.den ρ = some z := by
          obtain ⟨z, hz, _⟩ := (aEq_ok (w := (default : World)) 100).1 10000 t _ _ r _ _ hr (by omega) hx0 hy0
          exact ⟨z, hz⟩
        refine ⟨.bool (!z), by simp [AVal.den, mkNot_den hz], fun w ox oy => ?_⟩
        obtain ⟨z', hz', hrun⟩ := (aEq_ok (w := w) 100).1 10000 t _ _ r _ _ hr (by omega) hx0 hy0
        rw [hz] at hz'; cases hz'
        simp only [Sem.run_bind, run_eqGuard_agg w _ _ _ _ _ _ hg, Result.andThen_ok, run_neq_struct, hrun]
      · cases h
  · rename_i tx a ty b
    obtain ⟨u, rfl, hu'⟩ := den_iface hx
    obtain ⟨v, rfl, hv'⟩ := den_iface hy
    split at h
    · obtain ⟨r, hr, he⟩ := map_some h
      cases he
      obtain ⟨z, hz⟩ : ∃ z, r.den ρ = some z := by
        obtain ⟨z, hz, _⟩ := (aEq_ok (w := (default : World)) 100).1 10000 t _ _ r _ _ hr (by omega) hx hy
        exact ⟨z, hz⟩
      refine ⟨.bool z, by simp [AVal.den, hz], fun w ox oy => ?_⟩
      obtain ⟨z', hz', hrun⟩ := (aEq_ok (w := w) 100).1 10000 t _ _ r _ _ hr (by omega) hx hy
      rw [hz] at hz'; cases hz'
      simp [eqGuard, binOp, Op.equal, Op.maxDepth, hrun]
    · obtain ⟨r, hr, he⟩ := map_some h
      cases he
      obtain ⟨z, hz⟩ : ∃ z, r.den ρ = some z := by
        obtain ⟨z, hz, _⟩ := (aEq_ok (w := (default : World)) 100).1 10000 t _ _ r _ _ hr (by omega) hx hy
        exact ⟨z, hz⟩
      refine ⟨.bool (!z), by simp [AVal.den, mkNot_den hz], fun w ox oy => ?_⟩
      obtain ⟨z', hz', hrun⟩ := (aEq_ok (w := w) 100).1 10000 t _ _ r _ _ hr (by omega) hx hy
      rw [hz] at hz'; cases hz'
      simp [eqGuard, binOp, Op.equal, Op.maxDepth, hrun]
    · cases h
  · split at h
    · obtain ⟨r, hr, he⟩ := map_some h
      cases he
      refine ⟨.bool r, rfl, fun w ox oy => ?_⟩
      obtain ⟨h1, h2, h3⟩ := cmpNil_ok hr hx hy w
      simp [h1, h2]
    · obtain ⟨r, hr, he⟩ := map_some h
      cases he
      refine ⟨.bool (!r), rfl, fun w ox oy => ?_⟩
      obtain ⟨h1, h2, h3⟩ := cmpNil_ok hr hx hy w
      simp [h1, h3]
    · cases h

def aUn (op : UnOp) (x : AVal) : Option AVal :=
  match op, x with
  | .neg, .int k a => (mkBin .sub k (.lit 0) a).map (AVal.int k)
  | .not, .bool b => some (.bool (mkNot b))
  | _, _ => none
theorem aUn_ok {P : Program} {ρ : Env} {op : UnOp} {x u : AVal} {xv : Value} (h : aUn op x = some u) (hx : x.den ρ = some xv) :
    ∃ z, u.den ρ = some z ∧ ∀ w, (Op.unary op xv).run P w = .ok z w := by
  unfold aUn at h
  split at h
  · simp only [AVal.den] at hx
    rename_i k a
    obtain ⟨m, hm1, rfl⟩ := map_some hx
    obtain ⟨q, hq, rfl⟩ := map_some h
    obtain ⟨z, hz1, hz2⟩ := mkBin_den (ρ := ρ) hq rfl hm1
    cases hz2
    exact ⟨.int k (k.wrap (0 - m)), by simp only [AVal.den, hz1, Option.map_some], fun w => by simp only [Op.unary, Op.intArith, Sem.run_pure]⟩
  · simp only [AVal.den] at hx
    obtain ⟨m, hm1, rfl⟩ := map_some hx
    cases h
    exact ⟨.bool (!m), by simp only [AVal.den, mkNot_den hm1, Option.map_some], fun w => by simp [Op.unary]⟩
  · cases h

def aConv (P : Program) (src dst : TypeId) (x : AVal) : Option AVal :=
  match P.underlying src, P.underlying dst, x with
  | some _, some (.int k), .int _ n => some (.int k (mkCv k n))
  | some .string, some .string, .str s => some (.str s)
  | _, _, _ => none
theorem aConv_ok {P : Program} {ρ : Env} {s d : TypeId} {x u : AVal} {xv : Value} (h : aConv P s d x = some u) (hx : x.den ρ = some xv) :
    ∃ z, u.den ρ = some z ∧ ∀ w, (convert s d xv).run P w = .ok z w := by
  unfold aConv at h
  split at h
  · rename_i ds k k0 n hs hd
    simp only [AVal.den] at hx
    obtain ⟨m, hm1, rfl⟩ := map_some hx
    cases h
    exact ⟨.int k (k.wrap m), by simp only [AVal.den, mkCv_den hm1, Option.map_some], fun w => by simp [convert, run_und hs, run_und hd, Conv.intToInt]⟩
  · rename_i st hs hd
    cases h
    simp only [AVal.den, Option.some.injEq] at hx
    subst hx
    exact ⟨_, rfl, fun w => by simp [convert, run_und hs, run_und hd]⟩
  · cases h

end Go.Vm
end
