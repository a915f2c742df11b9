/-
  Pace (1): what is known of slices.Clone of a row told as a number, as the machine takes it.
-/
import Derived.Test.YtpgonpjakllnjaaVm27
namespace Go.Vm

/-- A copy of a whole row. -/
def spClone (ks : List IntKind) (el : TypeId) : SpG := fun args H nl cs => match args with
  | [.sliceNil] => some [.ret .sliceNil H nl cs]
  | [.slice l off n _] => match H.get l with
    | some ⟨.arr t ks' _ n' o' _, _⟩ => match t.codeT with
      | some c => cond (decide (ks = ks') && IT.beq n n' && IT.beq off o' && sureC cs (.cmp .geq n (.lit 1)) && sureC cs (.cmp .leq n (.lit 1000000)))
        (some [.ret (.slice (nl + 1) (.lit 0) n (.nv nl)) (H.set (nl + 1) ⟨.arr (.code ks c) ks el n (.lit 0) (some (.nv nl)), true⟩) (nl + 2) cs]) none
      | none => none
    | _ => none
  | _ => none
/-- Two rows told by the same numbers. -/
def spWords (ks : List IntKind) : SpG := fun args H nl cs => match args with
  | [.sliceNil, .sliceNil] => some [.ret (.bool (.lit true)) H nl cs]
  | [.slice l off n _, .slice l' off' n' _] => match H.get l, H.get l' with
    | some ⟨.arr t k1 _ m o _, _⟩, some ⟨.arr t' k2 _ m' o' _, _⟩ => match t.codeT, t'.codeT with
      | some c, some c' => cond (decide (ks = k1) && decide (ks = k2) && IT.beq n m && IT.beq n' m' && IT.beq n n' && IT.beq off o && IT.beq off' o' && IT.beq c c' && sureC cs (.cmp .geq n (.lit 1)) && sureC cs (.cmp .leq n (.lit 1000000)))
        (some [.ret (.bool (.lit true)) H nl cs]) none
      | _, _ => none
    | _, _ => none
  | _ => none
end Go.Vm
