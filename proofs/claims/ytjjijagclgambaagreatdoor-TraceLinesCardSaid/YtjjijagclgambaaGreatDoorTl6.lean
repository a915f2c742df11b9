/-
  Trace lines (6): lines of no rows; kinds of letters; heads of the law.
-/
import Derived.Test.YtjjijagclgambaaGreatDoorTl5
namespace Go.Proofs.YtjjijagclgambaaGreatDoor
open Go.Vm Go.TraceP
namespace Txt

-- LINES OF NO ROWS
def SLz : AVal := .slice 0 (.var 62) (.lit 0) (.var 63)
theorem ln_n5 : (run Tryz.prog [] sp5 4000 false 5 (entry Tryz.f5 (Tryz.f5.body.getD .ret) [bA .sliceNil] .leaf 480 [])).map (·.all (retIs (.str hdX))) = some true := by kernel_rfl
theorem ln_z5 : (run Tryz.prog [] sp5 4000 false 5 (entry Tryz.f5 (Tryz.f5.body.getD .ret) [bA SLz] .leaf 480 [])).map (·.all (retIs (.str hdX))) = some true := by kernel_rfl
theorem ln_n6 : (run Tryz.prog [] sp6 4000 false 6 (entry Tryz.f6 (Tryz.f6.body.getD .ret) [bA .sliceNil] .leaf 480 [])).map (·.all (retIs (.str hdX))) = some true := by kernel_rfl
theorem ln_z6 : (run Tryz.prog [] sp6 4000 false 6 (entry Tryz.f6 (Tryz.f6.body.getD .ret) [bA SLz] .leaf 480 [])).map (·.all (retIs (.str hdX))) = some true := by kernel_rfl
theorem undef_ok : OkRow undef := ⟨fun n _ => by rw [selI_undef]; decide, fun n _ => by rw [selI_undef]; decide⟩
/-- Slices of none. -/
def NoSl (x : Value) : Prop := x = .slice none 0 0 ∨ ∃ b o q : Nat, x = .slice (some ⟨b, o, none⟩) 0 q
theorem line_none {sp : CallF} {f : FuncId} {fn : Func} {w : World} {h : Nat} {x : Value} (hx : NoSl x) (hh : h < 18446744073709551616) (hsp : CallOk Tryz.prog ⟨w, [], G5 h undef 0⟩ sp) (hf : Tryz.prog.funcs[f]? = some fn) (hb : fn.body = some (fn.body.getD .ret))
    (hn : (run Tryz.prog [] sp 4000 false f (entry fn (fn.body.getD .ret) [bA .sliceNil] .leaf 480 [])).map (·.all (retIs (.str hdX))) = some true)
    (hz : (run Tryz.prog [] sp 4000 false f (entry fn (fn.body.getD .ret) [bA SLz] .leaf 480 [])).map (·.all (retIs (.str hdX))) = some true) :
    Calls Tryz.prog f #[.agg #[.int .u64 h, x]] w (fun e w' => e = .returned (.string (bytes (lineT h undef 0))) ∧ Framed w w') := by
  have hG := fun o q b => envL_G (n := 0) (o := o) (q := q) (b := b) hh (by omega) undef_ok
  have key : ∀ o q b (ρ' : Env), (envL h undef 0 o q b).Le ρ' → (AVal.str hdX).den ρ' = some (.string (bytes (lineT h undef 0))) := fun o q b ρ' hle => by
    have hS : SxOk ρ'.S := .of hle.s
    have h15 : ρ'.I 15 = (h : Int) := by rw [hle.i]; rfl
    have hp : (PT.bin .rem .u64 (.var 15) (.lit 65536)).den ρ' = ((h % 65536 : Nat) : Int) := by
      have := h16_den (ρ := ρ') h15
      simp only [h16, IT.den] at this
      simp only [PT.den, this, Option.getD_some]
    have d5 := fn_den hS (k := 5) (p := .bin .rem .u64 (.var 15) (.lit 65536)) (q := .lit 0) hp rfl (by show (Lib.decDigits _).length ≤ _; have := dec_len64 (u := h % 65536) (by omega); rw [Int.toNat_natCast]; omega)
    have := catD d5 (slitD [58])
    simp only [AVal.den]
    exact congrArg (fun z => some (Value.string z)) this
  rcases hx with rfl | ⟨b, o, q, rfl⟩
  · refine calls_ret (β := ⟨w, [], G5 h undef 0⟩) (ρ := envL h undef 0 0 0 0) noExt hsp rfl hf hb hn (xs := [.agg #[.int .u64 h, .slice none 0 0]]) rfl (HRel.ro [] (fun p hp => by cases hp) (fun i hi => if_neg (by omega)) (hG 0 0 0)) c0 (key 0 0 0)
  · refine calls_ret (β := ⟨w, [], G5 h undef 0⟩) (ρ := envL h undef 0 o q b) noExt hsp rfl hf hb hz (xs := [.agg #[.int .u64 h, .slice (some ⟨b, o, none⟩) 0 q]]) (denL1 ?_) (HRel.ro [] (fun p hp => by cases hp) (fun i hi => if_neg (by omega)) (hG o q b)) c0 (key o q b)
    have e1 : (AVal.int .u64 (.var 15)).den (envL h undef 0 o q b) = some (.int .u64 h) := rfl
    have e2 : SLz.den (envL h undef 0 o q b) = some (.slice (some ⟨b, o, none⟩) 0 q) := den_slice_of (n := 0) rfl rfl rfl rfl
    simp only [bA, AVal.den, denL2 e1 e2, Option.map_some]
theorem line5n {w : World} (hT : TabW w) (hM : MaxW w) {h : Nat} {x : Value} (hx : NoSl x) (hh : h < 18446744073709551616) : Calls Tryz.prog 5 #[.agg #[.int .u64 h, x]] w (fun e w' => e = .returned (.string (bytes (lineT h undef 0))) ∧ Framed w w') :=
  line_none hx hh (sp5_ok hT hM) Tryz.func5 rfl ln_n5 ln_z5
theorem line6n {w : World} {h : Nat} {x : Value} (hx : NoSl x) (hh : h < 18446744073709551616) : Calls Tryz.prog 6 #[.agg #[.int .u64 h, x]] w (fun e w' => e = .returned (.string (bytes (lineT h undef 0))) ∧ Framed w w') :=
  line_none hx hh sp6_ok Tryz.func6 rfl ln_n6 ln_z6
-- KINDS OF LETTERS
def lets : List UInt8 := [108, 102, 114, 119, 115, 120, 97]
def cnt (s : ByteArray) (i j : Nat) : Nat := (s.data.toList.take i).count (lets.getD j 0)
/-- Counts of letters, under names. -/
def GK (s : ByteArray) : GP := fun I _ S _ _ => S 1 = s ∧ ∀ j, j < 7 → I (40 + j) = (cnt s s.size j : Int)
noncomputable def envK (s : ByteArray) : Env := ⟨fun i => if 40 ≤ i then (cnt s s.size (i - 40) : Int) else 0, fun _ => false, fun i => if i = 1 then s else default, fun _ => undef, fun _ => none, F0⟩
theorem envK_G (s : ByteArray) : (GK s).at (envK s) := ⟨rfl, fun j hj => by
  show (if 40 ≤ 40 + j then (cnt s s.size (40 + j - 40) : Int) else 0) = _
  rw [if_pos (by omega), Nat.add_sub_cancel_left]⟩
def letC (c : UInt8) : Option Nat := lets.findIdx? (· == c)
def ctG (c : UInt8) (H : Heap) (nl : Nat) (cs : Cs) : Option (List Leaf) := match letC c with
  | some j => some [.ret (.int .i64 (.var (40 + j))) H nl cs]
  | none => none
def oneB : ST → Option UInt8
  | .lit [c] => some c
  | _ => none
theorem oneB_ok {s : ST} {c : UInt8} (h : oneB s = some c) : s = .lit [c] := by
  unfold oneB at h
  split at h
  · cases h; rfl
  · cases h
def spCt : SpG := fun args H nl cs => match args with
  | [a, .str s] => cond (AVal.beq a (.str (.var 1))) ((oneB s).bind fun c => ctG c H nl cs) none
  | _ => none
theorem letC_ok {c : UInt8} {j : Nat} (h : letC c = some j) : j < 7 ∧ lets.getD j 0 = c := by
  unfold letC at h
  have h1 := List.findIdx?_eq_some_iff_getElem.1 h
  obtain ⟨hj, he, _⟩ := h1
  refine ⟨hj, ?_⟩
  rw [List.getD_eq_getElem?_getD, List.getElem?_eq_getElem hj]
  simpa using he
theorem spCt_ok {w0 : World} {s : ByteArray} : SpGOk Tryz.prog ⟨w0, [], GK s⟩ 24 spCt := by
  intro args H nl cs ls ρ w xs hr hx hh hc
  unfold spCt at hr
  split at hr
  rotate_left
  · cases hr
  rename_i a st
  cases hb : AVal.beq a (.str (.var 1)) with
  | false => rw [hb] at hr; cases hr
  | true =>
  rw [hb, cond_true] at hr
  obtain rfl := AVal.beq_eq _ _ hb
  obtain ⟨c, hc1, hr2⟩ := Option.bind_eq_some_iff.1 hr
  obtain rfl := oneB_ok hc1
  clear hr
  unfold ctG at hr2
  split at hr2
  rotate_left
  · cases hr2
  rename_i j hj
  cases hr2
  obtain ⟨h7, hl⟩ := letC_ok hj
  obtain ⟨h1, hI⟩ := hh.g
  have h1 : ρ.S 1 = s := h1
  obtain rfl : [.string s, .string ⟨#[c]⟩] = xs := by
    simp only [AVal.denL, AVal.den, ST.den, h1, Option.some.injEq] at hx
    exact hx
  refine spV_ok (x := .int .i64 (cnt s s.size j : Int)) ((Any.strings_Count_one Tryz.lays138 s c w).mono fun e w' ⟨he, hw⟩ => ⟨?_, by rw [hw]; exact Framed.refl w⟩) (by simp only [AVal.den, IT.den, Option.map_some]; exact congrArg (fun z => some (Value.int .i64 z)) (hI j h7)) hh hc
  rw [he]
  unfold cnt Lib.countByte
  rw [hl, List.take_of_length_le (by simp)]
def kdV : AVal := .agg [.int .i64 (.var 40), .int .i64 (.var 41), .int .i64 (.var 42), .int .i64 (.var 43), .int .i64 (.bin .add .i64 (.var 44) (.var 45)), .int .i64 (.var 46)]
theorem run7 : (run Tryz.prog [] (spL [(24, spCt)]) 4000 false 7 (entry Tryz.f7 (Tryz.f7.body.getD .ret) [.str (.var 1)] .leaf 0 [])).map (·.all (retIs kdV)) = some true := by kernel_rfl
theorem kinds7 {w : World} {s : ByteArray} {x : Value} (hx : kdV.den (envK s) = some x) : Calls Tryz.prog 7 #[.string s] w (fun e w' => e = .returned x ∧ Framed w w') :=
  calls_ret (β := ⟨w, [], GK s⟩) (ρ := envK s) noExt (spL_ok fun p hp => by
    rw [List.mem_singleton.1 hp]
    exact spCt_ok) rfl Tryz.func7 rfl run7 (xs := [.string s]) rfl (HRel.startG w _ (fun _ => rfl) (envK_G s)) c0 fun ρ' hle => AVal.den_mono hle _ hx
end Txt
end Go.Proofs.YtjjijagclgambaaGreatDoor
