/-
  RankTables (13): lines of tables, names of operations, in the program and in the reference.
-/
import Derived.Test.YtglghnfbkiondaaDoorRt12
import Derived.Test.YtglghnfbkiondaaDoorRk2
namespace Go.Proofs.YtglghnfbkiondaaDoor
open Go.Vm
namespace Rt

-- TEXTS
def bt (l : List UInt8) : ByteArray := ⟨l.toArray⟩
theorem bt_app (a b : List UInt8) : bt a ++ bt b = bt (a ++ b) := by
  apply ByteArray.ext
  simp [bt]
theorem catD {ρ : Env} {s t : ST} {a b : List UInt8} (h : s.den ρ = bt a) (g : t.den ρ = bt b) : (ST.cat s t).den ρ = bt (a ++ b) := by
  show s.den ρ ++ t.den ρ = _
  rw [h, g, bt_app]
theorem slitD {ρ : Env} (a : List UInt8) : (ST.lit a).den ρ = bt a := rfl
theorem bt_list (b : ByteArray) : b = bt b.data.toList := by
  apply ByteArray.ext
  simp [bt]
/-- Numbers, each with a name; a word. -/
def textS (s : List UInt8) (k : Nat) (x _ : Int) : List UInt8 := if k = 1 then Lib.itoa x else if k = 3 then s else []
open Classical in
noncomputable def Ss (s : List UInt8) : Nat → ByteArray := fun n => if h : ∃ q : Nat × Int × Int, n = codN q.1 q.2.1 q.2.2 then bt (textS s h.choose.1 h.choose.2.1 h.choose.2.2) else default
theorem Ss_cod (s : List UInt8) (k : Nat) (x y : Int) : Ss s (codN k x y) = bt (textS s k x y) := by
  have h : ∃ q : Nat × Int × Int, codN k x y = codN q.1 q.2.1 q.2.2 := ⟨(k, x, y), rfl⟩
  unfold Ss
  rw [dif_pos h]
  obtain ⟨h1, h2, h3⟩ := codN_inj h.choose_spec
  rw [← h1, ← h2, ← h3]
theorem fnS_den {s : List UInt8} {ρ : Env} (hS : ρ.S = Ss s) {k : Nat} {p q : PT} {x y : Int} (hp : p.den ρ = x) (hq : q.den ρ = y) (hl : (textS s k x y).length ≤ 1000000) : (ST.fn k p q).den ρ = bt (textS s k x y) := by
  simp only [ST.den, hS, hp, hq, Ss_cod]
  refine cutM_eq ?_
  show (textS s k x y).toArray.size ≤ _
  simpa using hl
def spIt : SpG := fun args H nl cs => match args with
  | [.int .i64 (.var j)] => some [.ret (.str (.fn 1 (.var j) (.lit 0))) H nl cs]
  | _ => none
abbrev InJ (x : Int) : Prop := -9223372036854775808 ≤ x ∧ x < 9223372036854775808
def GL (s : List UInt8) (l : List Int) : GP := fun I _ S _ _ => S = Ss s ∧ I = fun i => l.getD i 0
noncomputable def envT (s : List UInt8) (l : List Int) : Env := ⟨fun i => l.getD i 0, fun _ => false, Ss s, fun _ => undef, fun _ => none, F0⟩
theorem spIt_ok {β : Base} {g : FuncId} {s : List UInt8} {l : List Int} (hβ : β.G = GL s l) (hl : ∀ i, InJ (l.getD i 0))
    (hg : ∀ {ρ : Env} {H : Heap} {nl : Nat} {w : World}, HRel β ρ H nl w → ∀ n, -9223372036854775808 ≤ n → n < 9223372036854775808 → Calls Tryd.prog g #[.int .i64 n] w (fun e w' => e = .returned (.string ⟨(Lib.itoa n).toArray⟩) ∧ Framed w w')) : SpGOk Tryd.prog β g spIt := by
  intro args H nl cs ls ρ w xs hr hx hh hc
  unfold spIt at hr
  split at hr
  rotate_left
  · cases hr
  rename_i j
  cases hr
  obtain ⟨hS, hI⟩ : GL s l ρ.I ρ.B ρ.S ρ.V ρ.F := by have := hh.g; rw [hβ] at this; exact this
  have hx' : AVal.denL ρ [.int .i64 (.var j)] = some [.int .i64 (l.getD j 0)] := by
    simp only [AVal.denL, AVal.den, IT.den, hI, Option.map_some]
  obtain rfl : [.int .i64 (l.getD j 0)] = xs := Option.some.inj (hx'.symm.trans hx)
  have hv : PT.den ρ (.var j) = l.getD j 0 := by simp only [PT.den, hI]
  have hf := fnS_den hS (k := 1) (p := .var j) (q := .lit 0) hv rfl (by show (Lib.itoa (l.getD j 0)).length ≤ _; have := itoa_len (hl j).1 (hl j).2; omega)
  exact spV_ok (hg hh _ (hl j).1 (hl j).2) (by simp only [AVal.den, hf]; rfl) hh hc
def v0 (j : Nat) : AVal := .int .i64 (.var j)
def r6 : AVal := .agg [v0 0, v0 1, v0 2, v0 3, v0 4, v0 5]
def sW : ST := .fn 3 (.lit 0) (.lit 0)
def nW (j : Nat) : ST := .fn 1 (.var j) (.lit 0)
def u27 : ST := .cat (.cat (.cat (.cat (.cat (.cat (.cat sW (.lit [58])) (.cat (.lit [32]) (nW 0))) (.cat (.lit [32]) (nW 1))) (.cat (.lit [32]) (nW 4))) (.cat (.lit [32]) (nW 5))) (.cat (.lit [32]) (nW 2))) (.lit [10])
def u30 : ST := .cat (.cat (.cat (.cat (.cat (.cat (.cat (.cat (.cat (.cat (.cat sW (.lit [58, 32])) (nW 0)) (.lit [32])) (nW 1)) (.lit [32])) (nW 4)) (.lit [32])) (nW 5)) (.lit [32])) (nW 2)) (.lit [10])
theorem run27 : (run Tryd.prog [] (spL [(39, spIt)]) 4000 false 27 (entry Tryd.f27 (Tryd.f27.body.getD .ret) [.str sW, r6] .leaf 0 [])).map (·.all (retIs (.str u27))) = some true := by kernel_rfl
theorem run30 : (run Tryd.prog [] (spL [(43, spIt)]) 4000 false 30 (entry Tryd.f30 (Tryd.f30.body.getD .ret) [.str sW, r6] .leaf 0 [])).map (·.all (retIs (.str u30))) = some true := by kernel_rfl
section
variable {s : List UInt8} {l : List Int} {ρ : Env}
theorem sW_den (h : GL s l ρ.I ρ.B ρ.S ρ.V ρ.F) (hs : s.length ≤ 1000) : sW.den ρ = bt s := by
  refine (fnS_den h.1 (k := 3) (p := .lit 0) (q := .lit 0) rfl rfl ?_).trans rfl
  show s.length ≤ _; omega
theorem nW_den (h : GL s l ρ.I ρ.B ρ.S ρ.V ρ.F) (hl : ∀ i, InJ (l.getD i 0)) (j : Nat) : (nW j).den ρ = bt (Lib.itoa (l.getD j 0)) := by
  refine (fnS_den h.1 (k := 1) (p := .var j) (q := .lit 0) (x := l.getD j 0) (by simp only [PT.den, h.2]) rfl ?_).trans rfl
  show (Lib.itoa (l.getD j 0)).length ≤ _
  have := itoa_len (hl j).1 (hl j).2; omega
theorem u27_den (h : GL s l ρ.I ρ.B ρ.S ρ.V ρ.F) (hs : s.length ≤ 1000) (hl : ∀ i, InJ (l.getD i 0)) : u27.den ρ = bt (s ++ lineT l) := by
  have n := nW_den h hl
  refine (catD (catD (catD (catD (catD (catD (catD (sW_den h hs) (slitD [58])) (catD (slitD [32]) (n 0))) (catD (slitD [32]) (n 1))) (catD (slitD [32]) (n 4))) (catD (slitD [32]) (n 5))) (catD (slitD [32]) (n 2))) (slitD [10])).trans ?_
  congr 1
  simp only [lineT, List.append_assoc, List.cons_append, List.nil_append]
theorem u30_den (h : GL s l ρ.I ρ.B ρ.S ρ.V ρ.F) (hs : s.length ≤ 1000) (hl : ∀ i, InJ (l.getD i 0)) : u30.den ρ = bt (s ++ lineT l) := by
  have n := nW_den h hl
  refine (catD (catD (catD (catD (catD (catD (catD (catD (catD (catD (catD (sW_den h hs) (slitD [58, 32])) (n 0)) (slitD [32])) (n 1)) (slitD [32])) (n 4)) (slitD [32])) (n 5)) (slitD [32])) (n 2)) (slitD [10])).trans ?_
  congr 1
  simp only [lineT, List.append_assoc, List.cons_append, List.nil_append]
end
theorem in0 {l : List Int} (h : ∀ x ∈ l, InJ x) (i : Nat) : InJ (l.getD i 0) := by
  rw [List.getD_eq_getElem?_getD]
  cases hq : l[i]? with
  | none => exact ⟨by decide, by decide⟩
  | some x => exact h x (List.mem_of_getElem? hq)
theorem six_of {l : List Int} (h : l.length = 6) : ∃ a b c d e f, l = [a, b, c, d, e, f] := by
  match l, h with
  | [a, b, c, d, e, f], _ => exact ⟨a, b, c, d, e, f, rfl⟩
theorem line27 {w : World} (hT : TabW w) {s l : List _} (hs : (s : List UInt8).length ≤ 1000) (h6 : (l : List Int).length = 6) (hl : ∀ x ∈ l, InJ x) :
    Calls Tryd.prog 27 #[.string (bt s), .agg (l.map (Value.int .i64)).toArray] w (fun e w' => e = .returned (.string (bt (s ++ lineT l))) ∧ Framed w w') := by
  have hS : GL s l (envT s l).I (envT s l).B (envT s l).S (envT s l).V (envT s l).F := ⟨rfl, rfl⟩
  refine calls_ret (β := ⟨w, [], GL s l⟩) (ρ := envT s l) noExt (spL_ok fun p hp => ?_) rfl Tryd.func27 rfl run27 (xs := [.string (bt s), .agg (l.map (Value.int .i64)).toArray]) ?_ (HRel.startG w _ (fun _ => rfl) hS) c0 (fun ρ' hle => ?_)
  · rw [List.mem_singleton.1 hp]
    exact spIt_ok rfl (in0 hl) fun hh n h1 h2 => itoa39 (TabW.of hT rfl hh) n h1 h2
  · obtain ⟨a, b, c, d, e, f, rfl⟩ := six_of h6
    refine denL2 ?_ rfl
    simp only [AVal.den, sW_den hS hs]
  · have hS' : GL s l ρ'.I ρ'.B ρ'.S ρ'.V ρ'.F := ⟨hle.s, hle.i⟩
    simp only [AVal.den, u27_den hS' hs (in0 hl)]
theorem line30 {w : World} {s l : List _} (hs : (s : List UInt8).length ≤ 1000) (h6 : (l : List Int).length = 6) (hl : ∀ x ∈ l, InJ x) :
    Calls Tryd.prog 30 #[.string (bt s), .agg (l.map (Value.int .i64)).toArray] w (fun e w' => e = .returned (.string (bt (s ++ lineT l))) ∧ Framed w w') := by
  have hS : GL s l (envT s l).I (envT s l).B (envT s l).S (envT s l).V (envT s l).F := ⟨rfl, rfl⟩
  refine calls_ret (β := ⟨w, [], GL s l⟩) (ρ := envT s l) noExt (spL_ok fun p hp => ?_) rfl Tryd.func30 rfl run30 (xs := [.string (bt s), .agg (l.map (Value.int .i64)).toArray]) ?_ (HRel.startG w _ (fun _ => rfl) hS) c0 (fun ρ' hle => ?_)
  · rw [List.mem_singleton.1 hp]
    exact spIt_ok rfl (in0 hl) fun _ n h1 h2 => num43 _ n h1 h2
  · obtain ⟨a, b, c, d, e, f, rfl⟩ := six_of h6
    refine denL2 ?_ rfl
    simp only [AVal.den, sW_den hS hs]
  · have hS' : GL s l ρ'.I ρ'.B ρ'.S ρ'.V ρ'.F := ⟨hle.s, hle.i⟩
    simp only [AVal.den, u30_den hS' hs (in0 hl)]
-- NAMES
noncomputable def Nm (f : FuncId) (fn : Func) (c : Nat) : Prop := (run Tryd.prog Rk.xR (spL []) 4000 false f (entry fn (fn.body.getD .ret) [.int .i64 (.lit (.ofNat c))] .leaf 0 [])).map (·.all (retIs (.str (.lit (nameT c))))) = some true
theorem nm29_0 : Nm 29 Tryd.f29 0 := by unfold Nm; kernel_rfl
theorem nm29_1 : Nm 29 Tryd.f29 1 := by unfold Nm; kernel_rfl
theorem nm29_2 : Nm 29 Tryd.f29 2 := by unfold Nm; kernel_rfl
theorem nm29_3 : Nm 29 Tryd.f29 3 := by unfold Nm; kernel_rfl
theorem nm29_4 : Nm 29 Tryd.f29 4 := by unfold Nm; kernel_rfl
theorem nm29_5 : Nm 29 Tryd.f29 5 := by unfold Nm; kernel_rfl
theorem nm29_6 : Nm 29 Tryd.f29 6 := by unfold Nm; kernel_rfl
theorem nm29_7 : Nm 29 Tryd.f29 7 := by unfold Nm; kernel_rfl
theorem nm29_8 : Nm 29 Tryd.f29 8 := by unfold Nm; kernel_rfl
theorem nm29_9 : Nm 29 Tryd.f29 9 := by unfold Nm; kernel_rfl
theorem nm29_10 : Nm 29 Tryd.f29 10 := by unfold Nm; kernel_rfl
theorem nm29_11 : Nm 29 Tryd.f29 11 := by unfold Nm; kernel_rfl
theorem nm29_12 : Nm 29 Tryd.f29 12 := by unfold Nm; kernel_rfl
theorem nm29_13 : Nm 29 Tryd.f29 13 := by unfold Nm; kernel_rfl
theorem nm29_14 : Nm 29 Tryd.f29 14 := by unfold Nm; kernel_rfl
theorem names29 : ∀ c, c < 15 → Nm 29 Tryd.f29 c := by
  intro c hc
  match c, hc with
  | 0, _ => exact nm29_0
  | 1, _ => exact nm29_1
  | 2, _ => exact nm29_2
  | 3, _ => exact nm29_3
  | 4, _ => exact nm29_4
  | 5, _ => exact nm29_5
  | 6, _ => exact nm29_6
  | 7, _ => exact nm29_7
  | 8, _ => exact nm29_8
  | 9, _ => exact nm29_9
  | 10, _ => exact nm29_10
  | 11, _ => exact nm29_11
  | 12, _ => exact nm29_12
  | 13, _ => exact nm29_13
  | 14, _ => exact nm29_14
theorem nm31_0 : Nm 31 Tryd.f31 0 := by unfold Nm; kernel_rfl
theorem nm31_1 : Nm 31 Tryd.f31 1 := by unfold Nm; kernel_rfl
theorem nm31_2 : Nm 31 Tryd.f31 2 := by unfold Nm; kernel_rfl
theorem nm31_3 : Nm 31 Tryd.f31 3 := by unfold Nm; kernel_rfl
theorem nm31_4 : Nm 31 Tryd.f31 4 := by unfold Nm; kernel_rfl
theorem nm31_5 : Nm 31 Tryd.f31 5 := by unfold Nm; kernel_rfl
theorem nm31_6 : Nm 31 Tryd.f31 6 := by unfold Nm; kernel_rfl
theorem nm31_7 : Nm 31 Tryd.f31 7 := by unfold Nm; kernel_rfl
theorem nm31_8 : Nm 31 Tryd.f31 8 := by unfold Nm; kernel_rfl
theorem nm31_9 : Nm 31 Tryd.f31 9 := by unfold Nm; kernel_rfl
theorem nm31_10 : Nm 31 Tryd.f31 10 := by unfold Nm; kernel_rfl
theorem nm31_11 : Nm 31 Tryd.f31 11 := by unfold Nm; kernel_rfl
theorem nm31_12 : Nm 31 Tryd.f31 12 := by unfold Nm; kernel_rfl
theorem nm31_13 : Nm 31 Tryd.f31 13 := by unfold Nm; kernel_rfl
theorem nm31_14 : Nm 31 Tryd.f31 14 := by unfold Nm; kernel_rfl
theorem names31 : ∀ c, c < 15 → Nm 31 Tryd.f31 c := by
  intro c hc
  match c, hc with
  | 0, _ => exact nm31_0
  | 1, _ => exact nm31_1
  | 2, _ => exact nm31_2
  | 3, _ => exact nm31_3
  | 4, _ => exact nm31_4
  | 5, _ => exact nm31_5
  | 6, _ => exact nm31_6
  | 7, _ => exact nm31_7
  | 8, _ => exact nm31_8
  | 9, _ => exact nm31_9
  | 10, _ => exact nm31_10
  | 11, _ => exact nm31_11
  | 12, _ => exact nm31_12
  | 13, _ => exact nm31_13
  | 14, _ => exact nm31_14
theorem name_of {f : FuncId} {fn : Func} (hf : Tryd.prog.funcs[f]? = some fn) (hb : fn.body = some (fn.body.getD .ret)) (h : ∀ c, c < 15 → Nm f fn c) (w : World) {k : Int} (hk : 0 ≤ k ∧ k < 15) : Calls Tryd.prog f #[.int .i64 k] w (fun e w' => e = .returned (.string (bt (nameT k.toNat))) ∧ Framed w w') := by
  obtain ⟨c, rfl⟩ : ∃ c : Nat, k = (c : Int) := ⟨k.toNat, by omega⟩
  exact calls_ret (β := ⟨w, [], fun _ _ _ _ _ => True⟩) (ρ := envOf [] [] F0) Rk.xR_ok (spL_ok fun _ h => by cases h) rfl hf hb (h c (by omega)) (xs := [.int .i64 (c : Int)]) rfl (HRel.startG w _ (fun _ => rfl) trivial) c0 (fun _ _ => rfl)
theorem name29 (w : World) {k : Int} (hk : 0 ≤ k ∧ k < 15) : Calls Tryd.prog 29 #[.int .i64 k] w (fun e w' => e = .returned (.string (bt (nameT k.toNat))) ∧ Framed w w') := name_of Tryd.func29 rfl names29 w hk
theorem name31 (w : World) {k : Int} (hk : 0 ≤ k ∧ k < 15) : Calls Tryd.prog 31 #[.int .i64 k] w (fun e w' => e = .returned (.string (bt (nameT k.toNat))) ∧ Framed w w') := name_of Tryd.func31 rfl names31 w hk
end Rt
end Go.Proofs.YtglghnfbkiondaaDoor
