/-
  HistoryOrders (2): 'Ended', 'Ahead', 'open'; the law's walk.
-/
import Derived.Test.YtagdcclpibjfoaaDoorHo1
namespace Go.Proofs.YtagdcclpibjfoaaDoor
open Go.Vm

theorem list16 {α : Type} {l : List α} (h : l.length = 16) : ∃ a0 a1 a2 a3 a4 a5 a6 a7 a8 a9 a10 a11 a12 a13 a14 a15, l = [a0, a1, a2, a3, a4, a5, a6, a7, a8, a9, a10, a11, a12, a13, a14, a15] := by
  match l, h with
  | [a0, a1, a2, a3, a4, a5, a6, a7, a8, a9, a10, a11, a12, a13, a14, a15], _ => exact ⟨_, _, _, _, _, _, _, _, _, _, _, _, _, _, _, _, rfl⟩

/-- A record: its start and its end are numbers; of the rest nothing is known. -/
def recA (k : Nat) (s e : IT) : AVal :=
  .agg [.var k, .var (k + 1), .var (k + 2), .var (k + 3), .var (k + 4), .var (k + 5), .var (k + 6), .int .i64 s, .int .i64 e, .var (k + 9), .var (k + 10), .var (k + 11), .var (k + 12), .var (k + 13), .var (k + 14), .var (k + 15)]

def spFirst : SpecF := fun args => match args with
  | [] => some [(.bool (.lit true), [])]
  | _ => none
theorem spFirst_ok : SpecOk Tryd.prog 16 spFirst := by
  intro args alts ρ w xs h hx
  unfold spFirst at h
  split at h
  · cases h; cases hx
    exact (first27 w).mono fun e w' ⟨he, hf⟩ => ⟨_, he, hf, _, List.mem_cons_self, rfl, fun _ hp => by cases hp⟩
  · cases h

def tAhead (e s : IT) : BT := .and (.cmp .geq e (.lit 0)) (.cmp .lss e s)
def spAhead : SpecF := fun args => match args with
  | [.agg [_, _, _, _, _, _, _, .int .i64 _, .int .i64 e, _, _, _, _, _, _, _], .agg [_, _, _, _, _, _, _, .int .i64 s, .int .i64 _, _, _, _, _, _, _, _]] => some [(.bool (tAhead e s), [])]
  | _ => none
def tOpen (s e t : IT) : BT := .and (.cmp .leq s t) (.not (.and (.cmp .geq e (.lit 0)) (.not (.cmp .leq t e))))
def spOpen : SpecF := fun args => match args with
  | [.agg [_, _, _, _, _, _, _, .int .i64 s, .int .i64 e, _, _, _, _, _, _, _], .int .i64 t] => some [(.bool (tOpen s e t), [])]
  | _ => none

theorem run23 : ∃ c, Tryd.f23.body = some c ∧ (run Tryd.prog exts (spOf noSpecs) 4000 false 23 (entry Tryd.f23 c [recA 0 (.var 0) (.var 1), recA 16 (.var 2) (.var 3)] .leaf 0 [])).map (·.all (leafB (tAhead (.var 1) (.var 2)))) = some true :=
  ⟨_, rfl, by kernel_rfl⟩
theorem run80 : ∃ c, Tryd.f80.body = some c ∧ (run Tryd.prog exts (spOf noSpecs) 4000 false 80 (entry Tryd.f80 c [recA 0 (.var 0) (.var 1), .int .i64 (.var 2)] .leaf 0 [])).map (·.all (leafB (tOpen (.var 0) (.var 1) (.var 2)))) = some true :=
  ⟨_, rfl, by kernel_rfl⟩

theorem denL_rec {ρ : Env} {l : List AVal} {va : List Value} (h : AVal.denL ρ l = some va) (hl : l.length = 16) : va.length = 16 := by
  rw [AVal.denL_length h]; exact hl
theorem denL_at {ρ : Env} {l : List AVal} {va : List Value} (h : AVal.denL ρ l = some va) {i : Nat} {k : IntKind} {t : IT} (hi : l[i]? = some (.int k t)) : ∃ z, t.den ρ = some z ∧ va[i]? = some (.int k z) := by
  obtain ⟨x, hx, hd⟩ := AVal.denL_get h hi
  simp only [AVal.den] at hd
  obtain ⟨z, hz, rfl⟩ := Option.map_eq_some_iff.1 hd
  exact ⟨z, hz, hx⟩

theorem spAhead_ok : SpecOk Tryd.prog 23 spAhead := by
  intro args alts ρ w xs h hx
  unfold spAhead at h
  split at h
  · rename_i a0 a1 a2 a3 a4 a5 a6 ea e a9 a10 a11 a12 a13 a14 a15 b0 b1 b2 b3 b4 b5 b6 s eb b9 b10 b11 b12 b13 b14 b15
    cases h
    simp only [AVal.denL] at hx
    split at hx
    · rename_i xa xl hxa hxl
      split at hxl
      · rename_i xb xn hxb hxn
        cases hxn; cases hxl; cases hx
        obtain ⟨la, hla, rfl⟩ := Option.map_eq_some_iff.1 hxa
        obtain ⟨lb, hlb, rfl⟩ := Option.map_eq_some_iff.1 hxb
        obtain ⟨z7, _, g7⟩ := denL_at hla (i := 7) rfl
        obtain ⟨z8, d8, g8⟩ := denL_at hla (i := 8) rfl
        obtain ⟨y7, c7, k7⟩ := denL_at hlb (i := 7) rfl
        obtain ⟨y8, _, k8⟩ := denL_at hlb (i := 8) rfl
        obtain ⟨p0, p1, p2, p3, p4, p5, p6, p7, p8, p9, p10, p11, p12, p13, p14, p15, rfl⟩ := list16 (denL_rec hla rfl)
        obtain ⟨q0, q1, q2, q3, q4, q5, q6, q7, q8, q9, q10, q11, q12, q13, q14, q15, rfl⟩ := list16 (denL_rec hlb rfl)
        cases g7; cases g8; cases k7; cases k8
        obtain ⟨c, hb, hr⟩ := run23
        have hT : (tAhead (.var 1) (.var 2)).den (envOf [z7, z8, y7, y8] [p0, p1, p2, p3, p4, p5, p6, undef, undef, p9, p10, p11, p12, p13, p14, p15, q0, q1, q2, q3, q4, q5, q6, undef, undef, q9, q10, q11, q12, q13, q14, q15] F0) = some (decide (z8 ≥ 0) && decide (z8 < y7)) := rfl
        refine (calls_bool (w := w) noCount exts_ok noSpecs_ok follows Tryd.func23 hb hr rfl (fun _ => rfl) (fun _ h => by cases h) hT).mono fun e' w' ⟨he, hf⟩ => ⟨_, he, hf, _, List.mem_cons_self, ?_, fun _ hp => by cases hp⟩
        simp only [tAhead, AVal.den, BT.den, IT.den, d8, c7, intCmp, Option.map_some]
      · cases hxl
    · cases hx
  · cases h

theorem spOpen_ok : SpecOk Tryd.prog 80 spOpen := by
  intro args alts ρ w xs h hx
  unfold spOpen at h
  split at h
  · rename_i a0 a1 a2 a3 a4 a5 a6 s e a9 a10 a11 a12 a13 a14 a15 t
    cases h
    simp only [AVal.denL] at hx
    split at hx
    · rename_i xa xl hxa hxl
      split at hxl
      · rename_i xb xn hxb hxn
        cases hxn; cases hxl; cases hx
        obtain ⟨la, hla, rfl⟩ := Option.map_eq_some_iff.1 hxa
        obtain ⟨z, hz, rfl⟩ := Option.map_eq_some_iff.1 hxb
        obtain ⟨z7, d7, g7⟩ := denL_at hla (i := 7) rfl
        obtain ⟨z8, d8, g8⟩ := denL_at hla (i := 8) rfl
        obtain ⟨p0, p1, p2, p3, p4, p5, p6, p7, p8, p9, p10, p11, p12, p13, p14, p15, rfl⟩ := list16 (denL_rec hla rfl)
        cases g7; cases g8
        obtain ⟨c, hb, hr⟩ := run80
        have hT : (tOpen (.var 0) (.var 1) (.var 2)).den (envOf [z7, z8, z] [p0, p1, p2, p3, p4, p5, p6, undef, undef, p9, p10, p11, p12, p13, p14, p15] F0) = some (decide (z7 ≤ z) && !(decide (z8 ≥ 0) && !(decide (z ≤ z8)))) := rfl
        refine (calls_bool (w := w) noCount exts_ok noSpecs_ok follows Tryd.func80 hb hr rfl (fun _ => rfl) (fun _ h => by cases h) hT).mono fun e' w' ⟨he, hf⟩ => ⟨_, he, hf, _, List.mem_cons_self, ?_, fun _ hp => by cases hp⟩
        simp only [tOpen, AVal.den, BT.den, IT.den, d7, d8, hz, intCmp, Option.map_some]
      · cases hxl
    · cases hx
  · cases h

def specs27 : Specs := [(16, spFirst), (23, spAhead), (80, spOpen)]
theorem specs27_ok : ∀ p ∈ specs27, SpecOk Tryd.prog p.1 p.2 := by
  intro p hp
  rcases List.mem_cons.1 hp with rfl | hp
  · exact spFirst_ok
  rcases List.mem_cons.1 hp with rfl | hp
  · exact spAhead_ok
  rcases List.mem_cons.1 hp with rfl | hp
  · exact spOpen_ok
  cases hp

end Go.Proofs.YtagdcclpibjfoaaDoor
