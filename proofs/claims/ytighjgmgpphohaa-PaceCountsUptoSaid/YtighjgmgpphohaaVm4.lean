/- A machine for abstract states over the model (part 4): operations that leave memory alone. -/
import Derived.Test.YtighjgmgpphohaaVm3
import Derived.Lib.Strings
namespace Go.Vm
section basics
variable {P : Program} {w : World} {t : TypeId}
theorem run_und {d : TypeDesc} (h : P.underlying t = some d) : (underlying t).run P w = .ok d w := by simp [underlying, h]
theorem run_info {i : TypeInfo} (h : P.info? t = some i) : (typeInfo t).run P w = .ok i w := by simp [typeInfo, h]
theorem run_size {i : TypeInfo} (h : P.info? t = some i) : (sizeOf t).run P w = .ok i.size w := by simp [sizeOf, run_info h]
def aggB : TypeDesc -> Bool
 | .struct _ | .array _ _ => true
 | _ => false
theorem run_isAgg {d : TypeDesc} (h : P.underlying t = some d) : (isAgg t).run P w = .ok (aggB d) w := by
 simp only [isAgg, Sem.run_bind, run_und h, Result.andThen_ok]
 cases d <;> rfl
end basics
def AVal.ofPrim : Value -> Option AVal
 | .bool b => some (.bool (.lit b))
 | .int k n => some (.int k (.lit n))
 | .string s => some (.str (.lit s.data.toList))
 | .pointer none => some .ptrNil
 | .slice none 0 0 => some .sliceNil
 | .map none => some .mapNil
 | .nilFunc => some .nilFunc
 | .nilIface => some .nilIface
 | .tuple l => match l.toList with
  | [] => some (.tuple [])
  | _ => none
 | _ => none
theorem AVal.ofPrim_den {ρ : Env} {x : Value} {v : AVal} (h : AVal.ofPrim x = some v) : v.den ρ = some x := by
 unfold AVal.ofPrim at h
 split at h <;> first
  | (cases h; done)
  | (cases h; simp [AVal.den, BT.den, IT.den, ST.den]; done)
  | skip
 rename_i l
 split at h
 · rename_i hl
   cases h
   have : l = #[] := by simpa using hl
   subst this; simp [AVal.den, AVal.denL]
 · cases h
def ofPrims : List Value -> Option (List AVal)
 | [] => some []
 | x :: r => match AVal.ofPrim x, ofPrims r with
  | some v, some l => some (v :: l)
  | _, _ => none
theorem ofPrims_den {ρ : Env} : ∀ {xs : List Value} {l : List AVal}, ofPrims xs = some l -> AVal.denL ρ l = some xs
 | [], l, h => by cases h; rfl
 | x :: r, l, h => by
  simp only [ofPrims] at h
  split at h
  · rename_i v l' hv hl
    cases h
    simp only [AVal.denL, AVal.ofPrim_den hv, ofPrims_den hl]
  · cases h
def AVal.ofVal : Value -> Option AVal
 | .agg cs => (ofPrims cs.toList).map AVal.agg
 | .iface t v => (AVal.ofPrim v).map (AVal.iface t)
 | x => AVal.ofPrim x
theorem AVal.ofVal_den {ρ : Env} {x : Value} {v : AVal} (h : AVal.ofVal x = some v) : v.den ρ = some x := by
 unfold AVal.ofVal at h
 split at h
 · obtain ⟨l, hl, rfl⟩ := Option.map_eq_some_iff.1 h
   simp [AVal.den, ofPrims_den hl]
 · obtain ⟨l, hl, rfl⟩ := Option.map_eq_some_iff.1 h
   simp [AVal.den, AVal.ofPrim_den hl]
 · exact AVal.ofPrim_den h
def AVal.cells? : AVal -> Option (List AVal)
 | .agg cs => some cs
 | .var _ => none
 | v => some [v]
theorem AVal.cells?_den {ρ : Env} {v : AVal} {l : List AVal} {x : Value} (h : v.cells? = some l) (hx : v.den ρ = some x) : AVal.denL ρ l = some x.cells.toList := by
 unfold AVal.cells? at h
 split at h
 · cases h
   simp only [AVal.den] at hx
   obtain ⟨y, hy, rfl⟩ := Option.map_eq_some_iff.1 hx
   simp [Value.cells, hy]
 · cases h
 · rename_i hagg hvar
   cases h
   have hne : ∀ cs, x ≠ .agg cs := by
    intro cs e; subst e
    cases v <;> simp only [AVal.den] at hx <;> first
     | (exact hagg _ rfl)
     | (exact hvar _ rfl)
     | (cases hx; done)
     | (obtain ⟨y, _, hy⟩ := Option.map_eq_some_iff.1 hx; cases hy; done)
     | (split at hx <;> cases hx)
   have : x.cells = #[x] := by
    cases x <;> first
     | rfl
     | exact absurd rfl (hne _)
   simp [AVal.denL, hx, this]
def aPart (P : Program) (t : TypeId) (cs : List AVal) (off : Nat) : Option AVal :=
 match P.underlying t with
 | none => none
 | some d => cond (aggB d) (match P.info? t with
  | some i => some (.agg ((cs.drop off).take i.size))
  | none => none) cs[off]?
theorem aPart_ok {P : Program} {ρ : Env} {t : TypeId} {cs : List AVal} {off : Nat} {u : AVal} {c : Array Value} (h : aPart P t cs off = some u) (hc : AVal.denL ρ cs = some c.toList) :
 ∃ y, u.den ρ = some y /\ ∀ w, (part t c off).run P w = .ok y w := by
 unfold aPart at h
 split at h
 · cases h
 · rename_i d hd
   cases ha : aggB d with
   | true =>
    rw [ha] at h
    simp only [cond_true] at h
    split at h
    · rename_i i hi
      cases h
      refine ⟨.agg ((c.toList.drop off).take i.size).toArray, ?_, fun w => ?_⟩
      · simp only [AVal.den, AVal.denL_take _ (AVal.denL_drop _ hc), Option.map_some]
      · have : c.extract off (off + i.size) = ((c.toList.drop off).take i.size).toArray := by
         apply Array.toList_inj.1; simp [Array.toList_extract, List.take_drop]
        simp [part, run_isAgg hd, ha, run_size hi, this]
    · cases h
   | false =>
    rw [ha] at h
    simp only [cond_false] at h
    obtain ⟨x, hx, hden⟩ := AVal.denL_get hc h
    refine ⟨x, hden, fun w => ?_⟩
    have hx' : c[off]? = some x := by simpa using hx
    simp [part, run_isAgg hd, ha, hx']
def aField (P : Program) (t : TypeId) (x : AVal) (i : Nat) : Option AVal :=
 match x, P.underlying t with
 | .agg cs, some (.struct fs) => match fs.toList[i]? with
  | some f => aPart P f.type cs f.offset
  | none => none
 | _, _ => none
theorem aField_ok {P : Program} {ρ : Env} {t : TypeId} {x u : AVal} {i : Nat} {xv : Value} (h : aField P t x i = some u) (hx : x.den ρ = some xv) :
 ∃ y, u.den ρ = some y /\ ∀ w, (Instr.field t xv i).run P w = .ok y w := by
 unfold aField at h
 split at h
 · rename_i cs fs hu
   split at h
   · rename_i f hf
     simp only [AVal.den] at hx
     obtain ⟨l, hl, rfl⟩ := Option.map_eq_some_iff.1 hx
     obtain ⟨y, hy, hr⟩ := aPart_ok (c := l.toArray) h (by simpa using hl)
     refine ⟨y, hy, fun w => ?_⟩
     have hf' : fs[i]? = some f := by simpa using hf
     simp [Instr.field, run_und hu, hf', asAgg, hr w]
   · cases h
 · cases h
def litNat : IT -> Option Nat
 | .lit (.ofNat n) => some n
 | _ => none
theorem litNat_den {ρ : Env} {t : IT} {n : Nat} (h : litNat t = some n) : t.den ρ = some (n : Int) := by
 unfold litNat at h
 split at h
 · cases h; rfl
 · cases h
def aIndex (P : Program) (t : TypeId) (x ix : AVal) : Option AVal :=
 match ix with
 | .int _ it => match litNat it with
  | none => none
  | some i => match P.underlying t, x with
   | some (.array len elem), .agg cs => match P.info? elem with
    | some e => cond (Nat.blt i len) (aPart P elem cs (i * e.size)) none
    | none => none
   | some .string, .str (.lit s) => match s[i]? with
    | some b => some (.int .u8 (.lit (.ofNat b.toNat)))
    | none => none
   | _, _ => none
 | _ => none
theorem aIndex_ok {P : Program} {ρ : Env} {t : TypeId} {x ix u : AVal} {xv iv : Value} (h : aIndex P t x ix = some u) (hx : x.den ρ = some xv) (hi : ix.den ρ = some iv) :
 ∃ y, u.den ρ = some y /\ ∀ w, (Instr.index t xv iv).run P w = .ok y w := by
 unfold aIndex at h
 split at h
 · rename_i k it
   simp only [AVal.den] at hi
   obtain ⟨n, hn, rfl⟩ := Option.map_eq_some_iff.1 hi
   split at h
   · cases h
   · rename_i i hit
     rw [litNat_den hit] at hn; cases hn
     split at h
     · rename_i len elem cs hu
       split at h
       · rename_i e he
         cases hb : Nat.blt i len with
         | false => rw [hb] at h; cases h
         | true =>
          rw [hb] at h; simp only [cond_true] at h
          have hlt : i < len := by rw [Nat.blt_eq] at hb; exact hb
          simp only [AVal.den] at hx
          obtain ⟨l, hl, rfl⟩ := Option.map_eq_some_iff.1 hx
          obtain ⟨y, hy, hr⟩ := aPart_ok (c := l.toArray) h (by simpa using hl)
          refine ⟨y, hy, fun w => ?_⟩
          have h1 : (0 : Int) <= (i : Int) /\ (i : Int) < (len : Int) := by omega
          simp [Instr.index, asIntOf, run_und hu, run_size he, h1, hlt, hr w]
       · cases h
     · rename_i s hu
       split at h
       · rename_i b hb
         cases h
         simp only [AVal.den, ST.den, Option.some.injEq] at hx
         subst hx
         refine ⟨.int .u8 b.toNat, rfl, fun w => ?_⟩
         have hlt : i < s.length := (List.getElem?_eq_some_iff.1 hb).1
         have h2 : (ByteArray.mk s.toArray)[i]? = some b := by
          rw [getElem?_pos (ByteArray.mk s.toArray) i (by show i < s.toArray.size; simpa using hlt)]
          have := (List.getElem?_eq_some_iff.1 hb).2
          show some (s.toArray[i]'(by simpa using hlt)) = some b
          simp [this]
         simp [Instr.index, asIntOf, run_und hu, h2]
       · cases h
     · cases h
 · cases h
def aExtract (x : AVal) (i : Nat) : Option AVal :=
 match x with
 | .tuple vs => vs[i]?
 | _ => none
theorem aExtract_ok {P : Program} {ρ : Env} {x u : AVal} {i : Nat} {xv : Value} (h : aExtract x i = some u) (hx : x.den ρ = some xv) :
 ∃ y, u.den ρ = some y /\ ∀ w, (Instr.extract xv i).run P w = .ok y w := by
 unfold aExtract at h
 split at h
 · simp only [AVal.den] at hx
   obtain ⟨l, hl, rfl⟩ := Option.map_eq_some_iff.1 hx
   obtain ⟨y, hy, hd⟩ := AVal.denL_get hl h
   refine ⟨y, hd, fun w => ?_⟩
   simp [Instr.extract, hy]
 · cases h
def aMkIface (P : Program) (t : TypeId) (x : AVal) : Option AVal :=
 match P.underlying t with
 | some (.interface _) => none
 | some _ => some (.iface t x)
 | none => none
theorem aMkIface_ok {P : Program} {ρ : Env} {t : TypeId} {x u : AVal} {xv : Value} (h : aMkIface P t x = some u) (hx : x.den ρ = some xv) :
 ∃ y, u.den ρ = some y /\ ∀ w, (Instr.makeInterface t xv).run P w = .ok y w := by
 unfold aMkIface at h
 split at h
 · cases h
 · rename_i d hd hu
   cases h
   refine ⟨.iface t xv, by simp [AVal.den, hx], fun w => ?_⟩
   simp only [Instr.makeInterface, Sem.run_bind, run_und hu, Result.andThen_ok]
   cases d <;> first
    | rfl
    | exact absurd rfl (hd _)
 · cases h
def aAssert (P : Program) (x : AVal) (asserted : TypeId) (commaOk : Bool) : Option AVal :=
 match P.underlying asserted, x with
 | some (.interface _), _ => none
 | some _, .iface t v => cond (Nat.beq t asserted) (some (cond commaOk (.tuple [v, .bool (.lit true)]) v))
  (cond commaOk (match P.info? asserted with
   | some i => match i.zero.bind AVal.ofVal with
    | some z => some (.tuple [z, .bool (.lit false)])
    | none => none
   | none => none) none)
 | _, _ => none
theorem aAssert_ok {P : Program} {ρ : Env} {x u : AVal} {xt as : TypeId} {c : Bool} {xv : Value} (h : aAssert P x as c = some u) (hx : x.den ρ = some xv) :
 ∃ y, u.den ρ = some y /\ ∀ w, (Instr.typeAssert xv xt as c).run P w = .ok y w := by
 unfold aAssert at h
 split at h
 · cases h
 · rename_i d t v hd hu
   simp only [AVal.den] at hx
   obtain ⟨y, hy, rfl⟩ := Option.map_eq_some_iff.1 hx
   cases hb : Nat.beq t as with
   | true =>
    rw [hb] at h; simp only [cond_true] at h
    have hte : t = as := Nat.eq_of_beq_eq_true hb
    subst hte
    cases h
    refine ⟨if c then .tuple #[y, .bool true] else y, ?_, fun w => ?_⟩
    · cases c <;> simp [AVal.den, AVal.denL, hy, BT.den]
    · simp only [Instr.typeAssert, Sem.run_bind, run_und hu, Result.andThen_ok]
      cases d <;> first
       | (simp; done)
       | exact absurd rfl (hd _)
   | false =>
    rw [hb] at h
    have hte : t ≠ as := fun e => by subst e; rw [Nat.beq_refl] at hb; cases hb
    cases c with
    | false => cases h
    | true =>
     simp only [cond_false, cond_true] at h
     split at h
     · rename_i i hi
       split at h
       · rename_i z hz
         cases h
         obtain ⟨zv, hz1, hz2⟩ := Option.bind_eq_some_iff.1 hz
         refine ⟨.tuple #[zv, .bool false], by simp [AVal.den, AVal.denL, BT.den, AVal.ofVal_den hz2], fun w => ?_⟩
         have hzr : (zeroValue as).run P w = .ok zv w := by simp [zeroValue, run_info hi, hz1]
         simp only [Instr.typeAssert, Sem.run_bind, run_und hu, Result.andThen_ok]
         cases d <;> first
          | (simp [hte, hzr]; done)
          | exact absurd rfl (hd _)
       · cases h
     · cases h
 · cases h
end Go.Vm
