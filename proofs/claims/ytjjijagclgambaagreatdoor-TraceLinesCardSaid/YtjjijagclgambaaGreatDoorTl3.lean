/-
  Trace lines (3): a text with its blanks turned: by the library, and by its words; heads of loops.
-/
import Derived.Test.YtjjijagclgambaaGreatDoorTl2
namespace Go.Proofs.YtjjijagclgambaaGreatDoor
open Go.Vm Go.TraceP
namespace Txt

-- BY THE LIBRARY
theorem below_framed {w w' : World} (h : RowKit.Below w.heap.size w w') : Framed w w' := ⟨h.size, h.block, h.tape, h.os, h.output⟩
theorem rep47 {w : World} (hM : MaxW w) (s : List UInt8) (hs : s.length ≤ 1000) : Calls Tryz.prog 47 #[.string (bytes s), .string (bytes [32]), .string (bytes [95])] w (fun e w' => e = .returned (.string (bytes (turn 32 95 s))) ∧ Framed w w') := by
  obtain ⟨m, hm⟩ := hM
  have hsz := bytes_size s
  have h1 : (bytes [32]).size = 1 := rfl
  have h2 : (bytes [95]).size = 1 := rfl
  have hc := Lib.countB_mul_le (bytes [32]) (by omega) (bytes s).size (bytes s) (Nat.le_refl _)
  rw [h1] at hc
  refine (Any.strings_ReplaceAll Tryz.lays155 Tryz.extra155 (bytes s) (bytes [32]) (bytes [95]) m w (by omega) hm (by omega) (by rw [h2]; omega)).mono fun e w' ⟨he, hb⟩ => ⟨?_, below_framed hb⟩
  rw [he, bytes_toList, bytes_toList, bytes_toList, replaceAll_turn]
  rfl
noncomputable def env2 (s : List UInt8) : Env := ⟨fun i => if i = 40 then encW (wordsOf s) else if i = 41 then ((wordsOf s).length : Int) else 0, fun _ => false, fun i => if i = 0 then bytes s else if i = 1 then bytes (turn 32 95 s) else default, fun _ => undef, fun _ => none, F0⟩
def G2 (s : List UInt8) : GP := fun I _ S _ _ => (S 0 = bytes s ∧ S 1 = bytes (turn 32 95 s)) ∧ (I 40 = encW (wordsOf s) ∧ I 41 = ((wordsOf s).length : Int))
theorem env2_G (s : List UInt8) : (G2 s).at (env2 s) := ⟨⟨rfl, rfl⟩, rfl, rfl⟩
def s0 : AVal := .str (.var 0)
def spRep : SpG := fun args H nl cs => cond (AVal.beqL args [s0, .str (.lit [32]), .str (.lit [95])]) (some [.ret (.str (.var 1)) H nl cs]) none
theorem run15 : (run Tryz.prog [] (spL [(47, spRep)]) 4000 false 15 (entry Tryz.f15 (Tryz.f15.body.getD .ret) [s0] .leaf 0 [])).map (·.all (retIs (.str (.var 1)))) = some true := by kernel_rfl
theorem joined15 {w : World} (hM : MaxW w) (s : List UInt8) (hs : s.length ≤ 1000) : Calls Tryz.prog 15 #[.string (bytes s)] w (fun e w' => e = .returned (.string (bytes (turn 32 95 s))) ∧ Framed w w') := by
  refine calls_ret (β := ⟨w, [], G2 s⟩) (ρ := env2 s) noExt (spL_ok fun p hp => ?_) rfl Tryz.func15 rfl run15 (xs := [.string (bytes s)]) rfl (HRel.startG w _ (fun _ => rfl) (env2_G s)) c0 fun ρ' hle => ?_
  · rw [List.mem_singleton.1 hp]
    intro args H nl cs ls ρ w1 xs hr hx hh hc
    dsimp only [spRep] at hr
    cases hb : AVal.beqL args [s0, .str (.lit [32]), .str (.lit [95])] with
    | false => rw [hb] at hr; cases hr
    | true =>
      rw [hb] at hr
      simp only [cond_true, Option.some.injEq] at hr
      subst hr
      obtain rfl := AVal.beqL_eq _ _ hb
      obtain ⟨⟨h0, h1⟩, _⟩ := hh.g
      have h0 : ρ.S 0 = bytes s := h0
      have h1 : ρ.S 1 = bytes (turn 32 95 s) := h1
      obtain rfl : [.string (bytes s), .string (bytes [32]), .string (bytes [95])] = xs := by
        simp only [s0, AVal.denL, AVal.den, ST.den, h0, Option.some.injEq] at hx
        exact hx
      exact spV_ok (rep47 (hM.of rfl hh) s hs) (by simp only [AVal.den, ST.den, h1]) hh hc
  · have : ρ'.S 1 = bytes (turn 32 95 s) := by rw [hle.s]; rfl
    simp only [AVal.den, ST.den, this]
-- BY ITS WORDS
def spWd : SpG := fun args H nl cs => cond (AVal.beqL args [s0]) (some [.ret (.slice (nl + 1) (.lit 0) (.var 41) (.nv nl)) (H.set (nl + 1) ⟨.srow (.var 40) 9 (.var 41) (some (.nv nl)), true⟩) (nl + 2) cs]) none
theorem spWd_ok {w : World} {s : List UInt8} (hs : s.length ≤ 1000) : SpGOk Tryz.prog ⟨w, [], G2 s⟩ 55 spWd := by
  intro args H nl cs ls ρ w1 xs hr hx hh hc
  dsimp only [spWd] at hr
  cases hb : AVal.beqL args [s0] with
  | false => rw [hb] at hr; cases hr
  | true =>
    rw [hb] at hr
    simp only [cond_true, Option.some.injEq] at hr
    subst hr
    obtain rfl := AVal.beqL_eq _ _ hb
    obtain ⟨⟨h0, _⟩, h40, h41⟩ := hh.g
    have h0 : ρ.S 0 = bytes s := h0
    obtain rfl : [.string (bytes s)] = xs := by
      simp only [s0, AVal.denL, AVal.den, ST.den, h0, Option.some.injEq] at hx
      exact hx
    refine (words55 w1 (bytes s) (by rw [bytes_size]; omega)).mono fun e w' ⟨x, he, hw⟩ => ⟨x, he, ?_⟩
    rw [show RW w1 (bytes s) x w' = TextsOut w1 w' x 9 ((wordsOf (bytes s).data.toList).map bytes) from rfl, bytes_toList] at hw
    obtain ⟨ρ', hle', hv, hr'⟩ := texts_in (nT := .var 41) (c := .var 40) hh hw (by rw [List.length_map]; exact varD h41) (varD h40) (by rw [strs_enc, List.map_map]; rfl)
    exact ⟨_, _, _, _, ρ', List.mem_cons_self, hle', hv, hr', hc.mono hle'⟩
def TU : Tpl := ⟨[(3, .str (.var 7)), (7, .slice 13 (.lit 0) (.var 41) (.nv 12)), (8, .int .i64 (.var 41)), (9, .int .i64 (.var 9))], 23, [(13, ⟨.srow (.var 40) 9 (.var 41) (some (.nv 12)), true⟩)], 480, cs9 (.var 41), 3⟩
def sp20 : CallF := spL [(55, spWd)]
def gt0 (b : Bool) : Cs := [q9 .gtr at9 (.lit 0) b]
def uX : ST := .cat (.var 7) (.lit [95])
def uW : ST := .dec (.un 0 (.var 40) (.var 9))
-- THE HEADS OF LINES
def ks8 : List IntKind := [.i64, .u64, .i64, .i64, .i64, .i64, .i64, .i64]
def SLl : AVal := .slice 0 (.var 62) (.var 36) (.var 63)
def bB : Nat × HB := (0, ⟨.arr (.var 0) ks8 50 (.var 36) (.var 62) none, false⟩)
def csB : Cs := [q9 .leq (.var 36) (.lit 50) true]
def TL : Tpl := ⟨[(3, .str (.var 7)), (12, SLl), (13, .int .i64 (.var 36)), (14, .int .i64 (.var 9))], 43, [bB], 480, cs9 (.var 36) ++ csB, 3⟩
/-- A text of an operation or a response: turned. -/
def spJn : SpG := fun args H nl cs => match args with
  | [.str (.fn k p q)] => cond (Nat.beq k 3 || Nat.beq k 4) (some [.ret (.str (.fn (k + 3) p q)) H nl cs]) none
  | _ => none
def h16 : IT := .bin .rem .u64 (.var 15) (.lit 65536)
/-- The block that a head names. -/
def spBk : SpG := fun args H nl cs => cond (AVal.beqL args [aU]) (some [.ret (.int .u64 h16) H nl cs]) none
def sp5 : CallF := spL [(13, spBk), (12, spU true), (14, spItoa), (16, spOpT), (17, spRespT), (15, spJn)]
def sp6 : CallF := spL [(18, spU false), (19, spItoa), (21, spOpT), (22, spRespT), (20, spJn)]
def bA (k : AVal) : AVal := .agg [.int .u64 (.var 15), k]
end Txt
end Go.Proofs.YtjjijagclgambaaGreatDoor
