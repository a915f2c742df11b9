/-
  Trace lines (Tw2): the words of a text: the reference's Words, strings.Split.
-/
import Derived.Test.YtjjijagclgambaaGreatDoorTw1
import Derived.Test.YtjjijagclgambaaGreatDoorVm27
namespace Go.Proofs.YtjjijagclgambaaGreatDoor
open Go.Vm
namespace Txt

def lbS (x : Int) : List UInt8 := (decS x).data.toList
theorem lb_enc (b : ByteArray) : lbS (encS b) = b.data.toList := by unfold lbS; rw [decS_encS]
/-- What the named functions of a text's number answer. -/
def FO (k : Nat) (x _y : Int) : Int := if k = 30 then encW (wordsOf (lbS x)) else 0
def GO (s : ByteArray) : GP := fun _ _ S _ F => S 5 = s ∧ F = FO
def ρO (s : ByteArray) : Env := ⟨fun _ => 0, fun _ => false, fun i => if i = 5 then s else default, fun _ => undef, fun _ => none, FO⟩
theorem GO_app {s : ByteArray} {σ : Sub} {ρ : Env} (h : GP.at (GO s) ρ) (hS : lk σ.S 5 = none) : GP.at (GO s) (σ.app ρ) := ⟨(app_S hS).trans h.1, h.2⟩
def g5 : Gen := ⟨10, 0, 1, 0⟩
def s5 : ST := .var 5
def xI (k : Nat) : AVal := .int .i64 (.var k)
def lenC (n : Int) : BT × Bool := (.cmp .leq (.slen s5) (.lit n), true)
def inS : Cs := [(.cmp .geq (.var 0) (.lit 0), true), (.cmp .leq (.var 0) (.slen s5), true), lenC 10000]
theorem wrapI {x : Int} (h : -9223372036854775808 ≤ x) (h2 : x < 9223372036854775808) : IntKind.i64.wrap x = x := by
  rw [IntKind.wrap_i64]; omega
theorem bcatL (a b : List UInt8) : bytes a ++ bytes b = bytes (a ++ b) := by apply ByteArray.ext; simp [bytes]
theorem un0_byte (s : ByteArray) (i : Nat) : univ 0 (encS s) (i : Int) = ((s.data.toList.getD i 0).toNat : Int) := by
  show (decL (encL (s.data.toList.map fun x => (x.toNat : Int)))).getD (i : Int).toNat 0 = _
  rw [decL_encL, Int.toNat_natCast, List.getD_eq_getElem?_getD, List.getD_eq_getElem?_getD, List.getElem?_map]
  cases s.data.toList[i]? <;> rfl
theorem piece1 (s : ByteArray) {i : Nat} (h : i < s.size) : s.extract i (i + 1) = bytes [s.data.toList.getD i 0] := by
  rw [Lib.extract_eq]
  have hl : i < s.data.toList.length := by simpa using h
  show bytes ((s.data.toList.drop i).take (i + 1 - i)) = _
  rw [show i + 1 - i = 1 by omega, List.drop_eq_getElem_cons hl, List.getD_eq_getElem?_getD, List.getElem?_eq_getElem hl]
  rfl
theorem at_i (s : ByteArray) {i : Nat} (h : i < s.size) : s.data.toList[i]? = some (s.data.toList.getD i 0) := by
  have hl : i < s.data.toList.length := by simpa using h
  rw [List.getD_eq_getElem?_getD, List.getElem?_eq_getElem hl]; rfl
theorem word_le {ws : List (List UInt8)} : ∀ {x : List UInt8}, x ∈ ws → x.length ≤ (joinW ws).length := by
  induction ws with
  | nil => intro x h; cases h
  | cons w r ih =>
    intro x h
    cases r with
    | nil => rw [List.mem_singleton.1 h]; exact Nat.le_refl _
    | cons v vs =>
      show _ ≤ (w ++ (32 :: joinW (v :: vs))).length
      simp only [List.length_append, List.length_cons]
      rcases List.mem_cons.1 h with rfl | h
      · omega
      · have := ih h; omega
theorem b32 {b : UInt8} : (b.toNat : Int) = 32 ↔ b = 32 := by
  constructor
  · intro h
    apply UInt8.toNat_inj.1
    show b.toNat = 32
    omega
  · rintro rfl; rfl
-- WORDS
def WA : Tpl := ⟨[(0, .str s5), (3, .slice 0 (.lit 0) (.lit 1) (.lit 1)), (4, xI 0)], 33, [(0, ⟨.cells [.str (.var 0)] 9 none, true⟩)], 1, inS, 3⟩
def sW : AVal := .slice 1 (.lit 0) (.var 3) (.nv 0)
def bW : Nat × HB := (1, ⟨.srow (.var 2) 9 (.var 3) (some (.nv 0)), true⟩)
def WB : Tpl := ⟨[(0, .str s5), (3, sW), (4, xI 0)], 33, [bW], 2, inS ++ [(.cmp .geq (.var 3) (.lit 1), true), (.cmp .leq (.var 3) (.lit 20000), true)], 3⟩
def RWA : Tpl := ⟨[(0, .slice 0 (.lit 0) (.lit 1) (.lit 1))], 1, [(0, ⟨.cells [.str (.var 0)] 9 none, true⟩)], 1, [], 0⟩
def RWB : Tpl := ⟨[(0, sW)], 1, [bW], 2, [], 0⟩
noncomputable def wb0 : Code := ((loopsOf (Tryz.f55.body.getD .ret) []).getD 0 (.ret, [])).1
noncomputable def wk0 : List Item := ((loopsOf (Tryz.f55.body.getD .ret) []).getD 0 (.ret, [])).2
noncomputable def sWorE : List LM := [.next 0 (.code (.loop wb0) :: wk0) [((.cmp .leq (.slen (.var 5)) (.lit 10000)), true)] ⟨[(0, (.lit 0))], [], [(0, (.lit []))], [], [(0, 0)]⟩]
noncomputable def sWorA : List LM := [.next 1 (.inLoop wb0 :: wk0) [((.cmp .eql (.un 0 (.scode (.var 5)) (.var 0)) (.lit 32)), true), ((.cmp .lss (.var 0) (.slen (.var 5))), true), ((.cmp .geq (.var 0) (.lit 0)), true), ((.cmp .leq (.var 0) (.slen (.var 5))), true), ((.cmp .leq (.slen (.var 5)) (.lit 10000)), true)] ⟨[(3, (.lit 2)), (0, (.bin .add .i64 (.var 0) (.lit 1))), (2, (.un 3 (.un 3 (.lit 0) (.scode (.var 0))) (.scode (.lit []))))], [], [], [], [(1, 3), (0, 2)]⟩,
  .stop [((.cmp .leq (.bin .add .i64 (.var 0) (.lit 1)) (.slen (.var 5))), false), ((.cmp .eql (.un 0 (.scode (.var 5)) (.var 0)) (.lit 32)), false), ((.cmp .lss (.var 0) (.slen (.var 5))), true), ((.cmp .geq (.var 0) (.lit 0)), true), ((.cmp .leq (.var 0) (.slen (.var 5))), true), ((.cmp .leq (.slen (.var 5)) (.lit 10000)), true)],
  .stop [((.cmp .leq (.var 0) (.bin .add .i64 (.var 0) (.lit 1))), false), ((.cmp .eql (.un 0 (.scode (.var 5)) (.var 0)) (.lit 32)), false), ((.cmp .lss (.var 0) (.slen (.var 5))), true), ((.cmp .geq (.var 0) (.lit 0)), true), ((.cmp .leq (.var 0) (.slen (.var 5))), true), ((.cmp .leq (.slen (.var 5)) (.lit 10000)), true)],
  .stop [((.cmp .leq (.slen (.cat (.var 0) (.sub (.var 5) (.var 0) (.bin .add .i64 (.var 0) (.lit 1))))) (.lit 9223372036854775807)), false), ((.cmp .leq (.var 0) (.bin .add .i64 (.var 0) (.lit 1))), true), ((.cmp .leq (.bin .add .i64 (.var 0) (.lit 1)) (.slen (.var 5))), true), ((.cmp .leq (.slen (.var 5)) (.lit 4611686018427387904)), true), ((.cmp .eql (.un 0 (.scode (.var 5)) (.var 0)) (.lit 32)), false), ((.cmp .lss (.var 0) (.slen (.var 5))), true), ((.cmp .geq (.var 0) (.lit 0)), true), ((.cmp .leq (.var 0) (.slen (.var 5))), true), ((.cmp .leq (.slen (.var 5)) (.lit 10000)), true)],
  .next 0 (.inLoop wb0 :: wk0) [((.cmp .leq (.slen (.cat (.var 0) (.sub (.var 5) (.var 0) (.bin .add .i64 (.var 0) (.lit 1))))) (.lit 9223372036854775807)), true), ((.cmp .leq (.var 0) (.bin .add .i64 (.var 0) (.lit 1))), true), ((.cmp .leq (.bin .add .i64 (.var 0) (.lit 1)) (.slen (.var 5))), true), ((.cmp .leq (.slen (.var 5)) (.lit 4611686018427387904)), true), ((.cmp .eql (.un 0 (.scode (.var 5)) (.var 0)) (.lit 32)), false), ((.cmp .lss (.var 0) (.slen (.var 5))), true), ((.cmp .geq (.var 0) (.lit 0)), true), ((.cmp .leq (.var 0) (.slen (.var 5))), true), ((.cmp .leq (.slen (.var 5)) (.lit 10000)), true)] ⟨[(0, (.bin .add .i64 (.var 0) (.lit 1)))], [], [(0, (.cat (.var 0) (.sub (.var 5) (.var 0) (.bin .add .i64 (.var 0) (.lit 1)))))], [], [(0, 0)]⟩,
  .done 0 [((.cmp .lss (.var 0) (.slen (.var 5))), false), ((.cmp .geq (.var 0) (.lit 0)), true), ((.cmp .leq (.var 0) (.slen (.var 5))), true), ((.cmp .leq (.slen (.var 5)) (.lit 10000)), true)] ⟨[], [], [(0, (.var 0))], [], [(0, 0)]⟩]
noncomputable def sWorB : List LM := [.next 1 (.inLoop wb0 :: wk0) [((.cmp .leq (.var 3) (.lit 1000000)), true), ((.cmp .eql (.un 0 (.scode (.var 5)) (.var 0)) (.lit 32)), true), ((.cmp .lss (.var 0) (.slen (.var 5))), true), ((.cmp .geq (.var 0) (.lit 0)), true), ((.cmp .leq (.var 0) (.slen (.var 5))), true), ((.cmp .leq (.slen (.var 5)) (.lit 10000)), true), ((.cmp .geq (.var 3) (.lit 1)), true), ((.cmp .leq (.var 3) (.lit 20000)), true)] ⟨[(3, (.bin .add .i64 (.var 3) (.lit 1))), (0, (.bin .add .i64 (.var 0) (.lit 1))), (2, (.un 3 (.var 2) (.scode (.lit []))))], [], [], [], [(1, 4), (0, 3)]⟩,
  .stop [((.cmp .leq (.bin .add .i64 (.var 0) (.lit 1)) (.slen (.var 5))), false), ((.cmp .eql (.un 0 (.scode (.var 5)) (.var 0)) (.lit 32)), false), ((.cmp .lss (.var 0) (.slen (.var 5))), true), ((.cmp .geq (.var 0) (.lit 0)), true), ((.cmp .leq (.var 0) (.slen (.var 5))), true), ((.cmp .leq (.slen (.var 5)) (.lit 10000)), true), ((.cmp .geq (.var 3) (.lit 1)), true), ((.cmp .leq (.var 3) (.lit 20000)), true)],
  .stop [((.cmp .leq (.var 0) (.bin .add .i64 (.var 0) (.lit 1))), false), ((.cmp .eql (.un 0 (.scode (.var 5)) (.var 0)) (.lit 32)), false), ((.cmp .lss (.var 0) (.slen (.var 5))), true), ((.cmp .geq (.var 0) (.lit 0)), true), ((.cmp .leq (.var 0) (.slen (.var 5))), true), ((.cmp .leq (.slen (.var 5)) (.lit 10000)), true), ((.cmp .geq (.var 3) (.lit 1)), true), ((.cmp .leq (.var 3) (.lit 20000)), true)],
  .stop [((.cmp .lss (.bin .sub .i64 (.var 3) (.lit 1)) (.var 3)), false), ((.cmp .leq (.var 0) (.bin .add .i64 (.var 0) (.lit 1))), true), ((.cmp .leq (.bin .add .i64 (.var 0) (.lit 1)) (.slen (.var 5))), true), ((.cmp .leq (.slen (.var 5)) (.lit 4611686018427387904)), true), ((.cmp .eql (.un 0 (.scode (.var 5)) (.var 0)) (.lit 32)), false), ((.cmp .lss (.var 0) (.slen (.var 5))), true), ((.cmp .geq (.var 0) (.lit 0)), true), ((.cmp .leq (.var 0) (.slen (.var 5))), true), ((.cmp .leq (.slen (.var 5)) (.lit 10000)), true), ((.cmp .geq (.var 3) (.lit 1)), true), ((.cmp .leq (.var 3) (.lit 20000)), true)],
  .stop [((.cmp .geq (.bin .sub .i64 (.var 3) (.lit 1)) (.lit 0)), false), ((.cmp .leq (.var 0) (.bin .add .i64 (.var 0) (.lit 1))), true), ((.cmp .leq (.bin .add .i64 (.var 0) (.lit 1)) (.slen (.var 5))), true), ((.cmp .leq (.slen (.var 5)) (.lit 4611686018427387904)), true), ((.cmp .eql (.un 0 (.scode (.var 5)) (.var 0)) (.lit 32)), false), ((.cmp .lss (.var 0) (.slen (.var 5))), true), ((.cmp .geq (.var 0) (.lit 0)), true), ((.cmp .leq (.var 0) (.slen (.var 5))), true), ((.cmp .leq (.slen (.var 5)) (.lit 10000)), true), ((.cmp .geq (.var 3) (.lit 1)), true), ((.cmp .leq (.var 3) (.lit 20000)), true)],
  .stop [((.cmp .leq (.slen (.cat (.dec (.un 0 (.var 2) (.bin .sub .i64 (.var 3) (.lit 1)))) (.sub (.var 5) (.var 0) (.bin .add .i64 (.var 0) (.lit 1))))) (.lit 9223372036854775807)), false), ((.cmp .geq (.bin .sub .i64 (.var 3) (.lit 1)) (.lit 0)), true), ((.cmp .lss (.bin .sub .i64 (.var 3) (.lit 1)) (.var 3)), true), ((.cmp .leq (.var 0) (.bin .add .i64 (.var 0) (.lit 1))), true), ((.cmp .leq (.bin .add .i64 (.var 0) (.lit 1)) (.slen (.var 5))), true), ((.cmp .leq (.slen (.var 5)) (.lit 4611686018427387904)), true), ((.cmp .eql (.un 0 (.scode (.var 5)) (.var 0)) (.lit 32)), false), ((.cmp .lss (.var 0) (.slen (.var 5))), true), ((.cmp .geq (.var 0) (.lit 0)), true), ((.cmp .leq (.var 0) (.slen (.var 5))), true), ((.cmp .leq (.slen (.var 5)) (.lit 10000)), true), ((.cmp .geq (.var 3) (.lit 1)), true), ((.cmp .leq (.var 3) (.lit 20000)), true)],
  .next 1 (.inLoop wb0 :: wk0) [((.cmp .leq (.slen (.cat (.dec (.un 0 (.var 2) (.bin .sub .i64 (.var 3) (.lit 1)))) (.sub (.var 5) (.var 0) (.bin .add .i64 (.var 0) (.lit 1))))) (.lit 9223372036854775807)), true), ((.cmp .geq (.bin .sub .i64 (.var 3) (.lit 1)) (.lit 0)), true), ((.cmp .lss (.bin .sub .i64 (.var 3) (.lit 1)) (.var 3)), true), ((.cmp .leq (.var 0) (.bin .add .i64 (.var 0) (.lit 1))), true), ((.cmp .leq (.bin .add .i64 (.var 0) (.lit 1)) (.slen (.var 5))), true), ((.cmp .leq (.slen (.var 5)) (.lit 4611686018427387904)), true), ((.cmp .eql (.un 0 (.scode (.var 5)) (.var 0)) (.lit 32)), false), ((.cmp .lss (.var 0) (.slen (.var 5))), true), ((.cmp .geq (.var 0) (.lit 0)), true), ((.cmp .leq (.var 0) (.slen (.var 5))), true), ((.cmp .leq (.slen (.var 5)) (.lit 10000)), true), ((.cmp .geq (.var 3) (.lit 1)), true), ((.cmp .leq (.var 3) (.lit 20000)), true)] ⟨[(3, (.var 3)), (0, (.bin .add .i64 (.var 0) (.lit 1))), (2, (.un 2 (.var 2) (.un 1 (.bin .sub .i64 (.var 3) (.lit 1)) (.scode (.cat (.dec (.un 0 (.var 2) (.bin .sub .i64 (.var 3) (.lit 1)))) (.sub (.var 5) (.var 0) (.bin .add .i64 (.var 0) (.lit 1))))))))], [], [], [], [(1, 1), (0, 0)]⟩,
  .stop [((.cmp .lss (.bin .sub .i64 (.var 3) (.lit 1)) (.var 3)), false), ((.cmp .eql (.un 0 (.scode (.var 5)) (.var 0)) (.lit 32)), false), ((.cmp .lss (.var 0) (.slen (.var 5))), true), ((.cmp .geq (.var 0) (.lit 0)), true), ((.cmp .leq (.var 0) (.slen (.var 5))), true), ((.cmp .leq (.slen (.var 5)) (.lit 10000)), true), ((.cmp .geq (.var 3) (.lit 1)), true), ((.cmp .leq (.var 3) (.lit 20000)), true)],
  .stop [((.cmp .geq (.bin .sub .i64 (.var 3) (.lit 1)) (.lit 0)), false), ((.cmp .eql (.un 0 (.scode (.var 5)) (.var 0)) (.lit 32)), false), ((.cmp .lss (.var 0) (.slen (.var 5))), true), ((.cmp .geq (.var 0) (.lit 0)), true), ((.cmp .leq (.var 0) (.slen (.var 5))), true), ((.cmp .leq (.slen (.var 5)) (.lit 10000)), true), ((.cmp .geq (.var 3) (.lit 1)), true), ((.cmp .leq (.var 3) (.lit 20000)), true)],
  .stop [((.cmp .leq (.bin .add .i64 (.var 0) (.lit 1)) (.slen (.var 5))), false), ((.cmp .geq (.bin .sub .i64 (.var 3) (.lit 1)) (.lit 0)), true), ((.cmp .lss (.bin .sub .i64 (.var 3) (.lit 1)) (.var 3)), true), ((.cmp .eql (.un 0 (.scode (.var 5)) (.var 0)) (.lit 32)), false), ((.cmp .lss (.var 0) (.slen (.var 5))), true), ((.cmp .geq (.var 0) (.lit 0)), true), ((.cmp .leq (.var 0) (.slen (.var 5))), true), ((.cmp .leq (.slen (.var 5)) (.lit 10000)), true), ((.cmp .geq (.var 3) (.lit 1)), true), ((.cmp .leq (.var 3) (.lit 20000)), true)],
  .stop [((.cmp .leq (.var 0) (.bin .add .i64 (.var 0) (.lit 1))), false), ((.cmp .geq (.bin .sub .i64 (.var 3) (.lit 1)) (.lit 0)), true), ((.cmp .lss (.bin .sub .i64 (.var 3) (.lit 1)) (.var 3)), true), ((.cmp .eql (.un 0 (.scode (.var 5)) (.var 0)) (.lit 32)), false), ((.cmp .lss (.var 0) (.slen (.var 5))), true), ((.cmp .geq (.var 0) (.lit 0)), true), ((.cmp .leq (.var 0) (.slen (.var 5))), true), ((.cmp .leq (.slen (.var 5)) (.lit 10000)), true), ((.cmp .geq (.var 3) (.lit 1)), true), ((.cmp .leq (.var 3) (.lit 20000)), true)],
  .stop [((.cmp .leq (.slen (.cat (.dec (.un 0 (.var 2) (.bin .sub .i64 (.var 3) (.lit 1)))) (.sub (.var 5) (.var 0) (.bin .add .i64 (.var 0) (.lit 1))))) (.lit 9223372036854775807)), false), ((.cmp .leq (.var 0) (.bin .add .i64 (.var 0) (.lit 1))), true), ((.cmp .leq (.bin .add .i64 (.var 0) (.lit 1)) (.slen (.var 5))), true), ((.cmp .leq (.slen (.var 5)) (.lit 4611686018427387904)), true), ((.cmp .geq (.bin .sub .i64 (.var 3) (.lit 1)) (.lit 0)), true), ((.cmp .lss (.bin .sub .i64 (.var 3) (.lit 1)) (.var 3)), true), ((.cmp .eql (.un 0 (.scode (.var 5)) (.var 0)) (.lit 32)), false), ((.cmp .lss (.var 0) (.slen (.var 5))), true), ((.cmp .geq (.var 0) (.lit 0)), true), ((.cmp .leq (.var 0) (.slen (.var 5))), true), ((.cmp .leq (.slen (.var 5)) (.lit 10000)), true), ((.cmp .geq (.var 3) (.lit 1)), true), ((.cmp .leq (.var 3) (.lit 20000)), true)],
  .next 1 (.inLoop wb0 :: wk0) [((.cmp .leq (.slen (.cat (.dec (.un 0 (.var 2) (.bin .sub .i64 (.var 3) (.lit 1)))) (.sub (.var 5) (.var 0) (.bin .add .i64 (.var 0) (.lit 1))))) (.lit 9223372036854775807)), true), ((.cmp .leq (.var 0) (.bin .add .i64 (.var 0) (.lit 1))), true), ((.cmp .leq (.bin .add .i64 (.var 0) (.lit 1)) (.slen (.var 5))), true), ((.cmp .leq (.slen (.var 5)) (.lit 4611686018427387904)), true), ((.cmp .geq (.bin .sub .i64 (.var 3) (.lit 1)) (.lit 0)), true), ((.cmp .lss (.bin .sub .i64 (.var 3) (.lit 1)) (.var 3)), true), ((.cmp .eql (.un 0 (.scode (.var 5)) (.var 0)) (.lit 32)), false), ((.cmp .lss (.var 0) (.slen (.var 5))), true), ((.cmp .geq (.var 0) (.lit 0)), true), ((.cmp .leq (.var 0) (.slen (.var 5))), true), ((.cmp .leq (.slen (.var 5)) (.lit 10000)), true), ((.cmp .geq (.var 3) (.lit 1)), true), ((.cmp .leq (.var 3) (.lit 20000)), true)] ⟨[(3, (.var 3)), (0, (.bin .add .i64 (.var 0) (.lit 1))), (2, (.un 2 (.var 2) (.un 1 (.bin .sub .i64 (.var 3) (.lit 1)) (.scode (.cat (.dec (.un 0 (.var 2) (.bin .sub .i64 (.var 3) (.lit 1)))) (.sub (.var 5) (.var 0) (.bin .add .i64 (.var 0) (.lit 1))))))))], [], [], [], [(1, 1), (0, 0)]⟩,
  .done 1 [((.cmp .lss (.var 0) (.slen (.var 5))), false), ((.cmp .geq (.var 0) (.lit 0)), true), ((.cmp .leq (.var 0) (.slen (.var 5))), true), ((.cmp .leq (.slen (.var 5)) (.lit 10000)), true), ((.cmp .geq (.var 3) (.lit 1)), true), ((.cmp .leq (.var 3) (.lit 20000)), true)] ⟨[(3, (.var 3)), (2, (.var 2))], [], [], [], [(1, 1), (0, 0)]⟩]
def noSpx : CallF := spL []
theorem noSpx_ok {β : Base} : CallOk Tryz.prog β noSpx := spL_ok fun _ h => by cases h
theorem rWorE : (run Tryz.prog [] noSpx 4000 true 55 (entry Tryz.f55 (Tryz.f55.body.getD .ret) [.str s5] .leaf 0 [lenC 10000])).map (·.filterMap (sumM g5 [RWA, RWB] [WA, WB])) = some sWorE := by kernel_rfl
theorem rWorA : (run Tryz.prog [] noSpx 4000 true 55 (WA.st (.code wb0 :: .inLoop wb0 :: wk0))).map (·.filterMap (sumM g5 [RWA, RWB] [WA, WB])) = some sWorA := by kernel_rfl
theorem rWorB : (run Tryz.prog [] noSpx 4000 true 55 (WB.st (.code wb0 :: .inLoop wb0 :: wk0))).map (·.filterMap (sumM g5 [RWA, RWB] [WA, WB])) = some sWorB := by kernel_rfl
def wAt (s : ByteArray) (i : Nat) : List (List UInt8) := wordsOf (s.data.toList.take i)
theorem wAt_in (s : ByteArray) (i : Nat) : WordsIn (wAt s i) (s.data.toList.take i) := words_in _
theorem wAt_len (s : ByteArray) (i : Nat) : 1 ≤ (wAt s i).length ∧ (wAt s i).length ≤ i + 1 := by
  have h := wAt_in s i
  have := List.length_pos_iff.2 h.ne
  have h2 := h.len
  rw [List.length_take] at h2
  omega
theorem wAt_word (s : ByteArray) (i : Nat) {x : List UInt8} (hx : x ∈ wAt s i) : x.length ≤ i := by
  have h := wAt_in s i
  have h2 := word_le hx
  rw [h.join, List.length_take] at h2
  omega
theorem wAt_succ (s : ByteArray) {i : Nat} (h : i < s.size) : wAt s (i + 1) = wstep (wAt s i) (s.data.toList.getD i 0) := wordsTo_succ (at_i s h)
theorem wAt_all (s : ByteArray) : wAt s s.size = wordsOf s.data.toList := by
  unfold wAt
  rw [List.take_of_length_le (by simp)]
def JWA (s : ByteArray) : GP := fun I _ S _ _ => ∃ i : Nat, I 0 = i ∧ i ≤ s.size ∧ wAt s i = [(S 0).data.toList]
def JWB (s : ByteArray) : GP := fun I _ _ _ _ => ∃ i : Nat, I 0 = i ∧ i ≤ s.size ∧ I 2 = encW (wAt s i) ∧ I 3 = ((wAt s i).length : Int)
abbrev RW (w0 : World) (s : ByteArray) : Value → World → Prop := fun x w' => TextsOut w0 w' x 9 ((wordsOf s.data.toList).map bytes)
def βO (w : World) (s : ByteArray) : Base := ⟨w, [], GO s⟩
theorem sub5_den {ρ : Env} {s : ByteArray} {i : Nat} (hS : ρ.S 5 = s) (h0 : ρ.I 0 = i) (hi : i < s.size) (hs : s.size ≤ 10000) : (ST.sub (.var 5) (.var 0) (.bin .add .i64 (.var 0) (.lit 1))).den ρ = bytes [s.data.toList.getD i 0] := by
  have e : IntKind.i64.wrap ((i : Int) + 1) = ((i + 1 : Nat) : Int) := by rw [wrapI (by omega) (by omega)]; omega
  simp only [ST.den, PT.den, hS, h0, intBin, Option.getD_some, e, Int.toNat_natCast]
  exact piece1 s hi
theorem catA_den {ρ : Env} {s : ByteArray} {i : Nat} {w : List UInt8} (hS : ρ.S 5 = s) (h0 : ρ.I 0 = i) (hi : i < s.size) (hs : s.size ≤ 10000) (hw : ρ.S 0 = bytes w) : (ST.cat (.var 0) (.sub (.var 5) (.var 0) (.bin .add .i64 (.var 0) (.lit 1)))).den ρ = bytes (w ++ [s.data.toList.getD i 0]) := by
  show ρ.S 0 ++ (ST.sub (.var 5) (.var 0) (.bin .add .i64 (.var 0) (.lit 1))).den ρ = _
  rw [sub5_den hS h0 hi hs, hw, bcatL]
theorem catB_den {ρ : Env} {s : ByteArray} {i : Nat} {ws : List (List UInt8)} (hS : ρ.S 5 = s) (h0 : ρ.I 0 = i) (hi : i < s.size) (hs : s.size ≤ 10000) (h2 : ρ.I 2 = encW ws) (h3 : ρ.I 3 = (ws.length : Int)) (hl : 1 ≤ ws.length) (hl2 : ws.length ≤ 20000) : (ST.cat (.dec (.un 0 (.var 2) (.bin .sub .i64 (.var 3) (.lit 1)))) (.sub (.var 5) (.var 0) (.bin .add .i64 (.var 0) (.lit 1)))).den ρ = bytes (ws.getD (ws.length - 1) [] ++ [s.data.toList.getD i 0]) := by
  have e : IntKind.i64.wrap ((ws.length : Int) - 1) = ((ws.length - 1 : Nat) : Int) := by rw [wrapI (by omega) (by omega)]; omega
  have ed : (ST.dec (.un 0 (.var 2) (.bin .sub .i64 (.var 3) (.lit 1)))).den ρ = bytes (ws.getD (ws.length - 1) []) := by
    simp only [ST.den, PT.den, h2, h3, intBin, Option.getD_some, e]
    rw [un0_enc (by omega), decS_encS]
  show (ST.dec (.un 0 (.var 2) (.bin .sub .i64 (.var 3) (.lit 1)))).den ρ ++ (ST.sub (.var 5) (.var 0) (.bin .add .i64 (.var 0) (.lit 1))).den ρ = _
  rw [ed, sub5_den hS h0 hi hs, bcatL]
theorem getD_mem {ws : List (List UInt8)} {k : Nat} (h : k < ws.length) : ws.getD k [] ∈ ws := by
  rw [List.getD_eq_getElem?_getD, List.getElem?_eq_getElem h]; exact List.getElem_mem h
theorem loopWB (w0 : World) (s : ByteArray) (hs : s.size ≤ 10000) : ∀ ρ, (JWB s).at ρ → ∀ todo a w, todo = .inLoop wb0 :: wk0 ∨ todo = .code (.loop wb0) :: wk0 → SRel (βO w0 s) ρ (WB.st todo) a w → Goes Tryz.prog 55 (RW w0 s) todo a w := by
  refine loop_goesM (β := βO w0 s) noCount noExt noSpx_ok follows rfl rWorB (JWB s) (fun ρ => (s.size - ρ.I 0).toNat) (fun ρ hJ hcs hG ih q hq => ?_)
  simp only [sWorB, List.mem_cons, List.not_mem_nil, or_false] at hq
  rcases hq with rfl | rfl | rfl | rfl | rfl | rfl | rfl | rfl | rfl | rfl | rfl | rfl | rfl | rfl
  all_goals intro ρ' hle hc
  all_goals obtain ⟨i, j1, j2, j3, j4⟩ := GP.mono hle hJ
  all_goals obtain ⟨g1, g2⟩ := GP.mono hle hG
  all_goals have hl := wAt_len s i
  all_goals have e2 : ρ.I = ρ'.I := hle.i.symm
  case inr.inr.inr.inr.inr.inr.inr.inr.inr.inr.inr.inr.inr =>
    intro T hT hG'
    simp [CRel_cons, CRel_nil, BT.den, IT.den, ST.den, intCmp, j1, g1] at hc
    have hij : i = s.size := by omega
    subst hij
    have hT : RWB = T := by simpa using hT
    subst hT
    refine ⟨GO_app hG' rfl, (fun _ h => by cases h), fun x w' r => ?_⟩
    obtain ⟨y, hy, he⟩ := r.t 0 sW rfl
    obtain rfl := Option.some.inj he
    rw [wAt_all] at j3
    exact texts_out (l := 1) (j := 0) (nT := .var 3) (c := .var 2) rfl r.h rfl hy (congrArg some j3) (by rw [strs_enc, List.map_map]; rfl)
  case inl =>
    intro T hT hG'
    have hi : i < s.size := by simp [CRel_cons, CRel_nil, BT.den, IT.den, ST.den, intCmp, j1, g1, un0_byte] at hc; omega
    have hb : s.data.toList.getD i 0 = 32 := by
      have := (CRel_cons.1 (CRel_cons.1 hc).2).1
      simp only [BT.den, IT.den, ST.den, g1, j1, un0_byte, intCmp, Option.some.injEq, beq_iff_eq] at this
      exact b32.1 this
    have hT : WB = T := by simpa using hT
    subst hT
    have e0 : IntKind.i64.wrap (ρ'.I 0 + 1) = ((i + 1 : Nat) : Int) := by rw [j1, wrapI (by omega) (by omega)]; omega
    have e3 : IntKind.i64.wrap (ρ'.I 3 + 1) = (((wAt s i).length + 1 : Nat) : Int) := by rw [j4, wrapI (by omega) (by omega)]; omega
    have hst : wAt s (i + 1) = wAt s i ++ [[]] := by rw [wAt_succ s hi, wstep, if_pos hb]
    refine ⟨GO_app hG' rfl, ?_, fun a w r => ih _ ?_ ⟨i + 1, e0, by omega, ?_, ?_⟩ _ a w (.inl rfl) r⟩
    · simp [WB, inS, lenC, s5, CRel_cons, CRel_nil, BT.den, IT.den, ST.den, intCmp, intBin, Go.Vm.Sub.app, lk_cons, lk_nil, e0, e3, g1]
      omega
    · show ((s.size : Int) - IntKind.i64.wrap (ρ'.I 0 + 1)).toNat < _
      rw [e0, e2, j1]; omega
    · show univ 3 (ρ'.I 2) (encS (bytes [])) = _
      rw [j3, un3_enc, hst]
    · show IntKind.i64.wrap (ρ'.I 3 + 1) = _
      rw [e3, hst]; simp
  all_goals
    first
      | (exfalso
         have hi : i < s.size := by simp [CRel_cons, CRel_nil, BT.den, IT.den, ST.den, intCmp, j1, g1, un0_byte] at hc; omega
         have hcat := catB_den (ws := wAt s i) g1 j1 hi hs j3 j4 hl.1 (by omega)
         have hwl := wAt_word s i (getD_mem (ws := wAt s i) (k := (wAt s i).length - 1) (by omega))
         have h1 := (CRel_cons.1 hc).1
         first
           | (simp only [BT.den, IT.den, hcat, bytes_size, List.length_append, List.length_singleton, intCmp, Option.some.injEq, decide_eq_false_iff_not] at h1
              omega)
           | (simp only [BT.den, IT.den, ST.den, intBin, IntKind.wrap_i64, intCmp, j1, j4, g1, Option.some.injEq, decide_eq_false_iff_not] at h1
              omega))
      | (intro T hT hG'
         have hi : i < s.size := by simp [CRel_cons, CRel_nil, BT.den, IT.den, ST.den, intCmp, j1, g1, un0_byte] at hc; omega
         have hb : ¬ s.data.toList.getD i 0 = 32 := by
           intro hb
           have := hc (.cmp .eql (.un 0 (.scode (.var 5)) (.var 0)) (.lit 32), false) (by simp)
           simp only [BT.den, IT.den, ST.den, g1, j1, un0_byte, intCmp, Option.some.injEq, hb] at this
           exact absurd this (by decide)
         have hT : WB = T := by simpa using hT
         subst hT
         have hcat := catB_den (ws := wAt s i) g1 j1 hi hs j3 j4 hl.1 (by omega)
         have e0 : IntKind.i64.wrap (ρ'.I 0 + 1) = ((i + 1 : Nat) : Int) := by rw [j1, wrapI (by omega) (by omega)]; omega
         have e3 : IntKind.i64.wrap (ρ'.I 3 - 1) = (((wAt s i).length - 1 : Nat) : Int) := by rw [j4, wrapI (by omega) (by omega)]; omega
         have hst : wAt s (i + 1) = (wAt s i).set ((wAt s i).length - 1) ((wAt s i).getD ((wAt s i).length - 1) [] ++ [s.data.toList.getD i 0]) := by rw [wAt_succ s hi, wstep, if_neg hb]
         refine ⟨GO_app hG' rfl, ?_, fun a w r => ih _ ?_ ⟨i + 1, e0, by omega, ?_, ?_⟩ _ a w (.inl rfl) r⟩
         · simp [WB, inS, lenC, s5, CRel_cons, CRel_nil, BT.den, IT.den, ST.den, intCmp, Go.Vm.Sub.app, lk_cons, lk_nil, e0, g1, j4, intBin]
           omega
         · show ((s.size : Int) - IntKind.i64.wrap (ρ'.I 0 + 1)).toNat < _
           rw [e0, e2, j1]; omega
         · show univ 2 (ρ'.I 2) (univ 1 (IntKind.i64.wrap (ρ'.I 3 - 1)) (encS ((ST.cat (.dec (.un 0 (.var 2) (.bin .sub .i64 (.var 3) (.lit 1)))) (.sub (.var 5) (.var 0) (.bin .add .i64 (.var 0) (.lit 1)))).den ρ'))) = _
           rw [hcat, e3, j3, un2_enc, hst]
         · show ρ'.I 3 = _
           rw [j4, hst]; simp)

theorem loopWA (w0 : World) (s : ByteArray) (hs : s.size ≤ 10000) : ∀ ρ, (JWA s).at ρ → ∀ todo a w, todo = .inLoop wb0 :: wk0 ∨ todo = .code (.loop wb0) :: wk0 → SRel (βO w0 s) ρ (WA.st todo) a w → Goes Tryz.prog 55 (RW w0 s) todo a w := by
  refine loop_goesM (β := βO w0 s) noCount noExt noSpx_ok follows rfl rWorA (JWA s) (fun ρ => (s.size - ρ.I 0).toNat) (fun ρ hJ hcs hG ih q hq => ?_)
  simp only [sWorA, List.mem_cons, List.not_mem_nil, or_false] at hq
  rcases hq with rfl | rfl | rfl | rfl | rfl | rfl
  all_goals intro ρ' hle hc
  all_goals obtain ⟨i, j1, j2, j3⟩ := GP.mono hle hJ
  all_goals obtain ⟨g1, g2⟩ := GP.mono hle hG
  all_goals have e2 : ρ.I = ρ'.I := hle.i.symm
  all_goals have hw : ρ'.S 0 = bytes (ρ'.S 0).data.toList := (bytes_list _).symm
  all_goals have hwl : (ρ'.S 0).data.toList.length ≤ i := wAt_word s i (by rw [j3]; exact List.mem_cons_self)
  case inr.inr.inr.inr.inr =>
    intro T hT hG'
    simp [CRel_cons, CRel_nil, BT.den, IT.den, ST.den, intCmp, j1, g1] at hc
    have hij : i = s.size := by omega
    subst hij
    have hT : RWA = T := by simpa using hT
    subst hT
    refine ⟨GO_app hG' rfl, (fun _ h => by cases h), fun x w' r => ?_⟩
    obtain ⟨y, hy, he⟩ := r.t 0 (.slice 0 (.lit 0) (.lit 1) (.lit 1)) rfl
    obtain rfl := Option.some.inj he
    rw [wAt_all] at j3
    have := text_out1 (l := 0) (s := .var 0) rfl r.h rfl hy
    show TextsOut w0 w' x 9 ((wordsOf s.data.toList).map bytes)
    rw [j3]
    simp only [List.map_cons, List.map_nil, bytes_list]
    exact this
  case inl =>
    intro T hT hG'
    have hi : i < s.size := by simp [CRel_cons, CRel_nil, BT.den, IT.den, ST.den, intCmp, j1, g1, un0_byte] at hc; omega
    have hb : s.data.toList.getD i 0 = 32 := by
      have := (CRel_cons.1 hc).1
      simp only [BT.den, IT.den, ST.den, g1, j1, un0_byte, intCmp, Option.some.injEq, beq_iff_eq] at this
      exact b32.1 this
    have hT : WB = T := by simpa using hT
    subst hT
    have e0 : IntKind.i64.wrap (ρ'.I 0 + 1) = ((i + 1 : Nat) : Int) := by rw [j1, wrapI (by omega) (by omega)]; omega
    have hst : wAt s (i + 1) = [(ρ'.S 0).data.toList] ++ [[]] := by rw [wAt_succ s hi, j3, wstep, if_pos hb]
    refine ⟨GO_app hG' rfl, ?_, fun a w r => loopWB w0 s hs _ ⟨i + 1, e0, by omega, ?_, ?_⟩ _ a w (.inl rfl) r⟩
    · simp [WB, inS, lenC, s5, CRel_cons, CRel_nil, BT.den, IT.den, ST.den, intCmp, intBin, Go.Vm.Sub.app, lk_cons, lk_nil, e0, g1]
      omega
    · show univ 3 (univ 3 0 (encS (ρ'.S 0))) (encS (bytes [])) = _
      have h0 : (0 : Int) = encW [] := rfl
      rw [h0, hw, un3_enc, un3_enc, hst]
      rfl
    · rw [hst]; rfl
  all_goals
    first
      | (exfalso
         have hi : i < s.size := by simp [CRel_cons, CRel_nil, BT.den, IT.den, ST.den, intCmp, j1, g1, un0_byte] at hc; omega
         have hcat := catA_den g1 j1 hi hs hw
         have h1 := (CRel_cons.1 hc).1
         first
           | (simp only [BT.den, IT.den, hcat, bytes_size, List.length_append, List.length_singleton, intCmp, Option.some.injEq, decide_eq_false_iff_not] at h1
              omega)
           | (simp only [BT.den, IT.den, ST.den, intBin, IntKind.wrap_i64, intCmp, j1, g1, Option.some.injEq, decide_eq_false_iff_not] at h1
              omega))
      | (intro T hT hG'
         have hi : i < s.size := by simp [CRel_cons, CRel_nil, BT.den, IT.den, ST.den, intCmp, j1, g1, un0_byte] at hc; omega
         have hb : ¬ s.data.toList.getD i 0 = 32 := by
           intro hb
           have := hc (.cmp .eql (.un 0 (.scode (.var 5)) (.var 0)) (.lit 32), false) (by simp)
           simp only [BT.den, IT.den, ST.den, g1, j1, un0_byte, intCmp, Option.some.injEq, hb] at this
           exact absurd this (by decide)
         have hT : WA = T := by simpa using hT
         subst hT
         have hcat := catA_den g1 j1 hi hs hw
         have e0 : IntKind.i64.wrap (ρ'.I 0 + 1) = ((i + 1 : Nat) : Int) := by rw [j1, wrapI (by omega) (by omega)]; omega
         refine ⟨GO_app hG' rfl, ?_, fun a w r => ih _ ?_ ⟨i + 1, e0, by omega, ?_⟩ _ a w (.inl rfl) r⟩
         · simp [WA, inS, lenC, s5, CRel_cons, CRel_nil, BT.den, IT.den, ST.den, intCmp, Go.Vm.Sub.app, lk_cons, lk_nil, e0, g1, intBin]
           omega
         · show ((s.size : Int) - IntKind.i64.wrap (ρ'.I 0 + 1)).toNat < _
           rw [e0, e2, j1]; omega
         · show wAt s (i + 1) = [((ST.cat (.var 0) (.sub (.var 5) (.var 0) (.bin .add .i64 (.var 0) (.lit 1)))).den ρ').data.toList]
           rw [hcat, wAt_succ s hi, j3, wstep, if_neg hb, bytes_toList]
           rfl)
/-- The reference's Words. -/
theorem words55 (w : World) (s : ByteArray) (hs : s.size ≤ 10000) : Calls Tryz.prog 55 #[.string s] w (fun e w' => ∃ x, e = .returned x ∧ RW w s x w') := by
  refine calls_sumsM (β := βO w s) (ρ := ρO s) noCount noExt noSpx_ok follows rfl Tryz.func55 rfl rWorE (xs := [.string s]) rfl (HRel.startG w _ (fun _ => rfl) ⟨rfl, rfl⟩) (CRel_cons.2 ⟨?_, CRel_nil.2 trivial⟩) (fun q hq => ?_)
  · show some (decide ((s.size : Int) ≤ 10000)) = some true
    simp; omega
  · rcases List.mem_cons.1 hq with rfl | hq
    · intro ρ' hle hc T hT hG
      have hT : WA = T := by simpa using hT
      subst hT
      obtain ⟨g1, g2⟩ := id hG
      refine ⟨GO_app hG rfl, ?_, fun a w' r => loopWA w s hs _ ⟨0, rfl, Nat.zero_le _, ?_⟩ _ a w' (.inr rfl) r⟩
      · simp [WA, inS, lenC, s5, CRel_cons, CRel_nil, BT.den, IT.den, ST.den, intCmp, Go.Vm.Sub.app, lk_cons, lk_nil, g1]
        omega
      · show wordsOf (s.data.toList.take 0) = [(ByteArray.mk ([] : List UInt8).toArray).data.toList]
        simp [wordsOf]
    · cases hq
-- WHAT IS KNOWN OF THEM
def wT (s : ST) : IT := .fn 30 (.scode s) (.lit 0)
/-- So long a text is at most, by what is known. -/
def sureL (cs : Cs) (s : ST) (n : Int) : Bool := dead ((.cmp .leq (.slen s) (.lit n), false) :: cs)
theorem sureL_ok {ρ : Env} {cs : Cs} {s : ST} {n : Int} (h : sureL cs s n = true) (hc : CRel ρ cs) : ((s.den ρ).size : Int) ≤ n := by
  by_cases hn : ((s.den ρ).size : Int) ≤ n
  · exact hn
  · exact (dead_ok (ρ := ρ) h ρ (Env.Le.refl ρ) (CRel_cons.2 ⟨by simp only [BT.den, IT.den, intCmp]; exact congrArg some (decide_eq_false hn), hc⟩)).elim
theorem seqD {ρ : Env} (a b : ST) : (BT.seq a b).den ρ = some ((a.den ρ).data.toList == (b.den ρ).data.toList) := by simp only [BT.den, Lib.toList_data]
def spWords (two : Bool) : SpG := fun args H nl cs => match args with
  | .str s :: r => cond (match two, r with
    | false, [] => true
    | true, [.str (.lit [32])] => true
    | _, _ => false) (cond (sureL cs s 10000) (some [.ret (.slice (nl + 1) (.lit 0) (.un 4 (wT s) (.lit 0)) (.nv nl)) (H.set (nl + 1) ⟨.srow (wT s) 9 (.un 4 (wT s) (.lit 0)) (some (.nv nl)), true⟩) (nl + 2) cs]) none) none
  | _ => none
def GF (k : Nat) (β : Base) : Prop := ∀ I B S V F, β.G I B S V F → ∀ x, F k x 0 = FO k x 0
theorem wT_den {β : Base} {ρ : Env} {H : Heap} {nl : Nat} {w : World} (hG : GF 30 β) (hh : HRel β ρ H nl w) (s : ST) : (wT s).den ρ = some (encW (wordsOf (s.den ρ).data.toList)) := by
  simp only [wT, IT.den, hG _ _ _ _ _ hh.g]
  show some (encW (wordsOf (lbS (encS (s.den ρ))))) = _
  rw [lb_enc]
theorem spWords_ok {β : Base} {g : FuncId} {two : Bool} (hG : GF 30 β) (h : ∀ w H nl ρ, HRel β ρ H nl w → ∀ s : ByteArray, s.size ≤ 10000 → Calls Tryz.prog g (cond two #[.string s, .string (bytes [32])] #[.string s]) w (fun e w' => ∃ x, e = .returned x ∧ RW w s x w')) : SpGOk Tryz.prog β g (spWords two) := by
  intro args H nl cs ls ρ w xs hr hx hh hc
  unfold spWords at hr
  split at hr
  rotate_left
  · cases hr
  rename_i s r
  have key : ∀ {b : Bool} {α : Type} {u : α} {v : Option α}, cond b v none = some u → b = true ∧ v = some u := fun {b} _ _ _ h => by cases b <;> simp at h; exact ⟨rfl, h⟩
  obtain ⟨hr1, hr⟩ := key hr
  obtain ⟨hr2, hr⟩ := key hr
  cases hr
  have hle := sureL_ok hr2 hc
  have hxs : xs.toArray = cond two #[.string (s.den ρ), .string (bytes [32])] #[.string (s.den ρ)] := by
    split at hr1
    · simp only [AVal.denL, AVal.den, Option.some.injEq] at hx
      subst hx; rfl
    · simp only [AVal.denL, AVal.den, Option.some.injEq] at hx
      subst hx; rfl
    · cases hr1
  rw [hxs]
  refine (h w H nl ρ hh (s.den ρ) (by omega)).mono fun e w' ⟨x, he, hw⟩ => ⟨x, he, ?_⟩
  have hd := wT_den hG hh s
  obtain ⟨ρ', hle', hv, hr'⟩ := texts_in (nT := .un 4 (wT s) (.lit 0)) (c := wT s) hh hw (by simp only [IT.den, hd, un4_enc, List.length_map]) hd (by rw [strs_enc, List.map_map]; rfl)
  exact ⟨_, _, _, _, ρ', List.mem_cons_self, hle', hv, hr', hc.mono hle'⟩
end Txt
end Go.Proofs.YtjjijagclgambaaGreatDoor
