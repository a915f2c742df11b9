/-
  Lines (6): LinesTell: texts of events and answers, and which event any text is.
-/
import Derived.Test.YtagdcclpibjfoaaDoorLi5
import Derived.Test.YtagdcclpibjfoaaDoorOt8
namespace Go.Proofs.YtagdcclpibjfoaaDoor
open Go.Vm Txt
namespace Ln

-- FIRST
def tabN : List (Int × List UInt8) := [(0, [48]), (1, [49]), (2, [50]), (3, [51]), (4, [52]), (7, [55]), (25, [50, 53]), (1000, [49, 48, 48, 48])]
def tabA : List (List AVal × AVal) := tabN.map fun p => ([.str (.lit p.2)], .tuple [.int .i64 (.lit p.1), .nilIface])
def tabI : List (List AVal × AVal) := tabN.map fun p => ([.int .i64 (.lit p.1)], .str (.lit p.2))
def spNil : SpG := fun args H nl cs => match args with
  | [.str (.lit [])] => some [.ret (.tuple [.int .i64 (.lit 0), .iface 180 (.ptr nl (.lit 0))]) H (nl + 1) cs]
  | _ => none
theorem tab_itoa : ∀ p ∈ tabN, Lib.itoa p.1 = p.2 := by decide +kernel
theorem tab_atoi : ∀ p ∈ tabN, atoiV p.2 = (p.1, true) := by decide
theorem nil_atoi : atoiV [] = (0, false) := by decide
theorem tab_small : ∀ p ∈ tabN, 0 ≤ p.1 ∧ p.1 ≤ 1000 ∧ p.2.length ≤ 4 := by decide
theorem spTabA_ok {β : Base} (hown : β.own = []) (hE : ErrW β.w0) : SpGOk Tryd.prog β 122 (orE (spKs tabA) spNil) := by
  refine orE_ok (fun args H nl cs ls ρ w xs hr hx hh hc => ?_) (fun args H nl cs ls ρ w xs hr hx hh hc => ?_)
  · unfold spKs at hr
    split at hr
    rotate_left
    · cases hr
    rename_i p hp
    cases hr
    have hb := List.find?_some hp
    have hm := List.mem_of_find?_eq_some hp
    obtain ⟨q, hq, rfl⟩ := List.mem_map.1 hm
    have ha := AVal.beqL_eq _ _ hb
    subst ha
    have hx' : xs = [.string ⟨q.2.toArray⟩] := (Option.some.inj hx).symm
    subst hx'
    obtain ⟨_, _, h4⟩ := tab_small q hq
    have e := tab_atoi q hq
    have hd : (ByteArray.mk q.2.toArray).data.toList = q.2 := by simp
    refine (atoi122a w (hE.of hown hh) ⟨q.2.toArray⟩ (by show q.2.toArray.size ≤ _; simp; omega)).mono fun e' w' h => ?_
    rw [hd, e] at h
    rcases h with ⟨_, he, hf⟩ | ⟨h1, _⟩
    · exact ⟨_, he, _, _, _, _, ρ, List.mem_cons_self, Env.Le.refl ρ, rfl, hh.framed hf, hc⟩
    · cases h1
  · unfold spNil at hr
    split at hr
    rotate_left
    · cases hr
    cases hr
    have hx' : xs = [.string ⟨([] : List UInt8).toArray⟩] := (Option.some.inj hx).symm
    subst hx'
    refine (atoi122a w (hE.of hown hh) ⟨([] : List UInt8).toArray⟩ (by show ([] : List UInt8).toArray.size ≤ _; simp)).mono fun e' w' h => ?_
    have hd : (ByteArray.mk ([] : List UInt8).toArray).data.toList = [] := rfl
    rw [hd, nil_atoi] at h
    rcases h with ⟨h1, _⟩ | ⟨_, N, he, hf⟩
    · cases h1
    · have hN := (hh.framed hf).num N
      have hle := Env.le_put (b := N) (hh.fresh nl (Nat.le_refl _))
      refine ⟨_, he, _, _, _, _, ρ.put nl N, List.mem_cons_self, hle, ?_, hN, hc.mono hle⟩
      have e0 : natOf (some (0 : Int)) = some 0 := rfl
      have eI : (IT.lit 0).den (ρ.put nl N) = some 0 := rfl
      simp only [AVal.den, AVal.denL, eI, Env.put_same, e0, Option.map_some]
theorem spTabI_ok {β : Base} (hown : β.own = []) (hT : TabW β.w0) : SpGOk Tryd.prog β 74 (spKs tabI) := by
  refine spKs_ok fun p hp ρ H nl w h => ?_
  obtain ⟨q, hq, rfl⟩ := List.mem_map.1 hp
  obtain ⟨h1, h2, _⟩ := tab_small q hq
  have e := tab_itoa q hq
  refine ⟨[.int .i64 q.1], .string ⟨q.2.toArray⟩, rfl, rfl, ?_⟩
  rw [← e]
  exact itoa74 (TabW.of hT hown h) q.1 (by omega) (by omega)
def sp62 : CallF := spL [(122, orE (spKs tabA) spNil), (74, spKs tabI)]
theorem run62 : (run Tryd.prog exts05 sp62 100000 false 62 (entry Tryd.f62 (Tryd.f62.body.getD .ret) [] .leaf 0 [])).map (·.all (leafB (.lit true))) = some true := by kernel_rfl
theorem first62 (w : World) (hT : TabW w) (hE : ErrW w) : Calls Tryd.prog 62 #[] w (fun e w' => e = .returned (.bool true) ∧ Framed w w') := by
  refine calls_true (β := .plain w) (ρ := envOf [] [] F0) exts05_ok (spL_ok fun p hp => ?_) rfl Tryd.func62 rfl run62 (xs := []) rfl (HRel.start w _ fun _ => rfl) (fun _ h => by cases h)
  simp only [List.mem_cons, List.not_mem_nil, or_false] at hp
  rcases hp with rfl | rfl
  · exact spTabA_ok rfl hE
  · exact spTabI_ok rfl hT

-- ANSWERS AS TEXT
def ansText (e st : Int) : List UInt8 := if e ≠ 0 then [33] ++ Lib.itoa e else [111, 107, 32] ++ Lib.itoa st
def aA : AVal := .agg [iv 50, iv 51]
def spAn : CallF := spL [(74, spKs [([iv 50], sv 6), ([iv 51], sv 7)]), (73, spKs [([iv 50], sv 6), ([iv 51], sv 7)])]
def lnB (s : ST) : BT × Bool := (.cmp .leq (.slen s) (.lit 9223372036854775807), true)
def t33 : ST := .cat (.lit [33]) (.var 6)
def tok : ST := .cat (.lit [111, 107, 32]) (.var 7)
def neT (b : Bool) : BT × Bool := (.cmp .neq (.var 50) (.lit 0), b)
theorem ra67t : (run Tryd.prog [] spAn 4000 false 67 (entry Tryd.f67 (Tryd.f67.body.getD .ret) [aA] .leaf 0 [lnB t33, neT true])).map (·.all (retIs (.str t33))) = some true := by kernel_rfl
theorem ra67f : (run Tryd.prog [] spAn 4000 false 67 (entry Tryd.f67 (Tryd.f67.body.getD .ret) [aA] .leaf 0 [lnB tok, neT false])).map (·.all (retIs (.str tok))) = some true := by kernel_rfl
theorem ra68t : (run Tryd.prog [] spAn 4000 false 68 (entry Tryd.f68 (Tryd.f68.body.getD .ret) [aA] .leaf 0 [lnB t33, neT true])).map (·.all (retIs (.str t33))) = some true := by kernel_rfl
theorem ra68f : (run Tryd.prog [] spAn 4000 false 68 (entry Tryd.f68 (Tryd.f68.body.getD .ret) [aA] .leaf 0 [lnB tok, neT false])).map (·.all (retIs (.str tok))) = some true := by kernel_rfl
def ρA (e st : Int) : Env := ⟨fun i => if i = 50 then e else st, fun _ => false, fun i => if i = 6 then Txt.bytes (Lib.itoa e) else Txt.bytes (Lib.itoa st), fun _ => undef, fun _ => none, F0⟩
theorem itoa_le (n : Int) (h : InJ n) : (Lib.itoa n).length ≤ 1000 := by
  obtain ⟨h1, h2⟩ := h
  have := itoa_len h1 h2
  omega
theorem answers {e st : Int} (he : InJ e) (hs : InJ st) (w : World) (hT : TabW w) : ∀ f, f = 67 ∨ f = 68 → Calls Tryd.prog f #[.agg #[.int .i64 e, .int .i64 st]] w (fun x w' => x = .returned (.string (Txt.bytes (ansText e st))) ∧ Framed w w') := by
  obtain ⟨ρ, hρ⟩ : ∃ ρ, ρ = ρA e st := ⟨_, rfl⟩
  have hN : ∀ i, ρ.N i = none := fun i => by rw [hρ]; rfl
  have hx : AVal.denL ρ [aA] = some [.agg #[.int .i64 e, .int .i64 st]] := by rw [hρ]; rfl
  have hsp : CallOk Tryd.prog ⟨w, [], GE ρ⟩ spAn := by
    refine spL_ok fun p hp => ?_
    simp only [List.mem_cons, List.not_mem_nil, or_false] at hp
    rcases hp with rfl | rfl
    · refine spKs_ok fun p hp ρ' H nl w' h => ?_
      obtain ⟨gI, gB, gS⟩ : GE ρ ρ'.I ρ'.B ρ'.S ρ'.V ρ'.F := h.g
      simp only [List.mem_cons, List.not_mem_nil, or_false] at hp
      rcases hp with rfl | rfl
      · refine ⟨[.int .i64 e], _, ?_, ?_, itoa74 (TabW.of hT rfl h) e he.1 he.2⟩
        · simp only [iv, AVal.denL, AVal.den, IT.den, gI, Option.map_some]; rw [hρ]; rfl
        · simp only [sv, AVal.den, ST.den, gS]; rw [hρ]; rfl
      · refine ⟨[.int .i64 st], _, ?_, ?_, itoa74 (TabW.of hT rfl h) st hs.1 hs.2⟩
        · simp only [iv, AVal.denL, AVal.den, IT.den, gI, Option.map_some]; rw [hρ]; rfl
        · simp only [sv, AVal.den, ST.den, gS]; rw [hρ]; rfl
    · refine spKs_ok fun p hp ρ' H nl w' h => ?_
      obtain ⟨gI, gB, gS⟩ : GE ρ ρ'.I ρ'.B ρ'.S ρ'.V ρ'.F := h.g
      simp only [List.mem_cons, List.not_mem_nil, or_false] at hp
      rcases hp with rfl | rfl
      · refine ⟨[.int .i64 e], _, ?_, ?_, num73 w' e he.1 he.2⟩
        · simp only [iv, AVal.denL, AVal.den, IT.den, gI, Option.map_some]; rw [hρ]; rfl
        · simp only [sv, AVal.den, ST.den, gS]; rw [hρ]; rfl
      · refine ⟨[.int .i64 st], _, ?_, ?_, num73 w' st hs.1 hs.2⟩
        · simp only [iv, AVal.denL, AVal.den, IT.den, gI, Option.map_some]; rw [hρ]; rfl
        · simp only [sv, AVal.den, ST.den, gS]; rw [hρ]; rfl
  have d33 : ∀ ρ', ρ.Le ρ' → t33.den ρ' = Txt.bytes ([33] ++ Lib.itoa e) := fun ρ' hle => by
    show (ST.lit [33]).den ρ' ++ ρ'.S 6 = _
    rw [hle.s, hρ]
    exact bytes_app [33] (Lib.itoa e)
  have dok : ∀ ρ', ρ.Le ρ' → tok.den ρ' = Txt.bytes ([111, 107, 32] ++ Lib.itoa st) := fun ρ' hle => by
    show (ST.lit [111, 107, 32]).den ρ' ++ ρ'.S 7 = _
    rw [hle.s, hρ]
    exact bytes_app [111, 107, 32] (Lib.itoa st)
  have l1 := itoa_le e he
  have l2 := itoa_le st hs
  have cl : ∀ {t : ST} {l : List UInt8}, t.den ρ = Txt.bytes l → l.length ≤ 2000 → (lnB t).1.den ρ = some (lnB t).2 := fun {t l} h hl => by
    have el : (IT.lit 9223372036854775807).den ρ = some 9223372036854775807 := rfl
    simp only [lnB, BT.den, IT.den, h, bytes_size, intCmp, Option.some.injEq, decide_eq_true_eq]
    omega
  have ne : (BT.cmp .neq (.var 50) (.lit 0)).den ρ = some (e != 0) := by rw [hρ]; rfl
  intro f hf
  by_cases h0 : e = 0
  · have ht : ansText e st = [111, 107, 32] ++ Lib.itoa st := by unfold ansText; rw [if_neg (by simpa using h0)]
    have nf : (neT false).1.den ρ = some false := by show (BT.cmp .neq (.var 50) (.lit 0)).den ρ = _; rw [ne, h0]; rfl
    rw [ht]
    rcases hf with rfl | rfl
    · exact calls_ret (β := ⟨w, [], GE ρ⟩) (ρ := ρ) noExt hsp rfl Tryd.func67 rfl ra67f hx (HRel.startG w _ hN ⟨rfl, rfl, rfl⟩) (CRel_cons.2 ⟨cl (dok ρ (Env.Le.refl ρ)) (by simp; omega), CRel_cons.2 ⟨nf, CRel_nil.2 trivial⟩⟩) (fun ρ' hle => congrArg (fun b => some (Value.string b)) (dok ρ' hle))
    · exact calls_ret (β := ⟨w, [], GE ρ⟩) (ρ := ρ) noExt hsp rfl Tryd.func68 rfl ra68f hx (HRel.startG w _ hN ⟨rfl, rfl, rfl⟩) (CRel_cons.2 ⟨cl (dok ρ (Env.Le.refl ρ)) (by simp; omega), CRel_cons.2 ⟨nf, CRel_nil.2 trivial⟩⟩) (fun ρ' hle => congrArg (fun b => some (Value.string b)) (dok ρ' hle))
  · have ht : ansText e st = [33] ++ Lib.itoa e := by unfold ansText; rw [if_pos h0]
    have nt : (neT true).1.den ρ = some true := by show (BT.cmp .neq (.var 50) (.lit 0)).den ρ = _; rw [ne]; simp [h0]
    rw [ht]
    rcases hf with rfl | rfl
    · exact calls_ret (β := ⟨w, [], GE ρ⟩) (ρ := ρ) noExt hsp rfl Tryd.func67 rfl ra67t hx (HRel.startG w _ hN ⟨rfl, rfl, rfl⟩) (CRel_cons.2 ⟨cl (d33 ρ (Env.Le.refl ρ)) (by simp; omega), CRel_cons.2 ⟨nt, CRel_nil.2 trivial⟩⟩) (fun ρ' hle => congrArg (fun b => some (Value.string b)) (d33 ρ' hle))
    · exact calls_ret (β := ⟨w, [], GE ρ⟩) (ρ := ρ) noExt hsp rfl Tryd.func68 rfl ra68t hx (HRel.startG w _ hN ⟨rfl, rfl, rfl⟩) (CRel_cons.2 ⟨cl (d33 ρ (Env.Le.refl ρ)) (by simp; omega), CRel_cons.2 ⟨nt, CRel_nil.2 trivial⟩⟩) (fun ρ' hle => congrArg (fun b => some (Value.string b)) (d33 ρ' hle))

-- THE LAW
def rN : AVal := .tuple [.agg [iv 60, iv 61, iv 62, iv 63, iv 64, iv 65, iv 66, iv 67], .bool (.var 0)]
def sp13 : CallF := spL [(62, spTrue), (63, spKs [([sv 5], rN)]), (64, spKs [([sv 5], rN)]), (65, spKs [([evNm], sv 24)]), (66, spKs [([evNm], sv 24)]), (67, spKs [([aA], sv 25)]), (68, spKs [([aA], sv 25)])]
theorem run13t : (run Tryd.prog [] sp13 4000 false 13 (entry Tryd.f13 (Tryd.f13.body.getD .ret) [evNm, sv 5, aA] .leaf 0 [(.cmp .gtr (.slen (.var 5)) (.lit 300), true)])).map (·.all (leafB (.lit true))) = some true := by kernel_rfl
theorem run13f : (run Tryd.prog [] sp13 4000 false 13 (entry Tryd.f13 (Tryd.f13.body.getD .ret) [evNm, sv 5, aA] .leaf 0 [(.cmp .gtr (.slen (.var 5)) (.lit 300), false)])).map (·.all (leafB (.lit true))) = some true := by kernel_rfl
theorem readV_form (l : List UInt8) : ∃ (e : Evt) (b : Bool), readV l = .tuple #[evV e, .bool b] := by
  unfold readV
  split
  · exact ⟨_, _, rfl⟩
  · exact ⟨_, _, rfl⟩
def ρL (e q : Evt) (er st : Int) (b : Bool) (s : ByteArray) : Env := ⟨fun i => [er, st, 0, 0, 0, 0, 0, 0, 0, 0, q.k, q.w, q.o, q.n, q.c, q.y, q.a, q.b].getD (i - 50) 0 |> fun z => if i < 50 then [e.k, e.w, e.o, e.n, e.c, e.y, e.a, e.b].getD (i - 40) 0 else z, fun _ => b, fun i => if i = 5 then s else if i = 24 then Txt.bytes (evText e) else Txt.bytes (ansText er st), fun _ => undef, fun _ => none, F0⟩
theorem tell_walk (w : World) (hT : TabW w) (hM : MaxW w) (hE : ErrW w) {e : Evt} (he : EvIn e) (s : ByteArray) {er st : Int} (h1 : InJ er) (h2 : InJ st) :
    Calls Tryd.prog 13 #[evV e, .string s, .agg #[.int .i64 er, .int .i64 st]] w (fun x w' => x = .returned (.bool true) ∧ Framed w w') := by
  obtain ⟨q, b, hq⟩ := readV_form s.data.toList
  obtain ⟨ρ, hρ⟩ : ∃ ρ, ρ = ρL e q er st b s := ⟨_, rfl⟩
  have hN : ∀ i, ρ.N i = none := fun i => by rw [hρ]; rfl
  have hx : AVal.denL ρ [evNm, sv 5, aA] = some [evV e, .string s, .agg #[.int .i64 er, .int .i64 st]] := by rw [hρ]; rfl
  have s5 : (IT.slen (.var 5)).den ρ = some (s.size : Int) := by rw [hρ]; rfl
  have sp : s.size ≤ 300 → CallOk Tryd.prog ⟨w, [], GE ρ⟩ sp13 := fun hs => by
    have tT : ∀ {ρ' : Env} {H : Heap} {nl : Nat} {w' : World}, HRel ⟨w, [], GE ρ⟩ ρ' H nl w' → TabW w' := fun h => TabW.of hT rfl h
    have tM : ∀ {ρ' : Env} {H : Heap} {nl : Nat} {w' : World}, HRel ⟨w, [], GE ρ⟩ ρ' H nl w' → MaxW w' := fun h => by obtain ⟨m, hm⟩ := hM; exact ⟨m, cell_of' (β := ⟨w, [], GE ρ⟩) hm rfl h⟩
    have tE : ∀ {ρ' : Env} {H : Heap} {nl : Nat} {w' : World}, HRel ⟨w, [], GE ρ⟩ ρ' H nl w' → ErrW w' := fun h => ErrW.of (β := ⟨w, [], GE ρ⟩) hE rfl h
    have hs5 : ∀ ρ' : Env, ρ'.S = ρ.S → AVal.denL ρ' [sv 5] = some [.string s] := fun ρ' e => by
      simp only [sv, AVal.denL, AVal.den, ST.den, e]; rw [hρ]; rfl
    have hrN : ∀ ρ' : Env, ρ'.I = ρ.I → ρ'.B = ρ.B → rN.den ρ' = some (readV s.data.toList) := fun ρ' e1 e2 => by
      simp only [rN, iv, AVal.den, AVal.denL, IT.den, BT.den, e1, e2, Option.map_some]
      rw [hq, hρ]; rfl
    have hev : ∀ ρ' : Env, ρ'.I = ρ.I → AVal.denL ρ' [evNm] = some [evV e] := fun ρ' e1 => by
      simp only [evNm, iv, AVal.den, AVal.denL, IT.den, e1, Option.map_some]
      rw [hρ]; rfl
    have h24 : ∀ ρ' : Env, ρ'.S = ρ.S → (sv 24).den ρ' = some (.string ⟨(evText e).toArray⟩) := fun ρ' e1 => by
      simp only [sv, AVal.den, ST.den, e1]; rw [hρ]; rfl
    have haA : ∀ ρ' : Env, ρ'.I = ρ.I → AVal.denL ρ' [aA] = some [.agg #[.int .i64 er, .int .i64 st]] := fun ρ' e1 => by
      simp only [aA, iv, AVal.den, AVal.denL, IT.den, e1, Option.map_some]
      rw [hρ]; rfl
    have h25 : ∀ ρ' : Env, ρ'.S = ρ.S → (sv 25).den ρ' = some (.string (Txt.bytes (ansText er st))) := fun ρ' e1 => by
      simp only [sv, AVal.den, ST.den, e1]; rw [hρ]; rfl
    refine spL_ok fun p hp => ?_
    simp only [List.mem_cons, List.not_mem_nil, or_false] at hp
    rcases hp with rfl | rfl | rfl | rfl | rfl | rfl | rfl
    · intro args H nl cs ls ρ' w' xs hr hx hh hc
      change spTrue args H nl cs = some ls at hr
      unfold spTrue at hr
      split at hr
      · cases hr; cases hx
        exact spV_ok (first62 w' (tT hh) (tE hh)) rfl hh hc
      · cases hr
    · refine spKs_ok fun p hp ρ' H nl w' h => ?_
      obtain ⟨gI, gB, gS⟩ : GE ρ ρ'.I ρ'.B ρ'.S ρ'.V ρ'.F := h.g
      rw [List.mem_singleton.1 hp]
      exact ⟨_, _, hs5 ρ' gS, hrN ρ' gI gB, parse63a w' (tT h) (tM h) (tE h) s (by omega)⟩
    · refine spKs_ok fun p hp ρ' H nl w' h => ?_
      obtain ⟨gI, gB, gS⟩ : GE ρ ρ'.I ρ'.B ρ'.S ρ'.V ρ'.F := h.g
      rw [List.mem_singleton.1 hp]
      exact ⟨_, _, hs5 ρ' gS, hrN ρ' gI gB, parse64a w' (tT h) (tM h) (tE h) s (by omega)⟩
    · refine spKs_ok fun p hp ρ' H nl w' h => ?_
      obtain ⟨gI, gB, gS⟩ : GE ρ ρ'.I ρ'.B ρ'.S ρ'.V ρ'.F := h.g
      rw [List.mem_singleton.1 hp]
      exact ⟨_, _, hev ρ' gI, h24 ρ' gS, text65 w' (tT h) he⟩
    · refine spKs_ok fun p hp ρ' H nl w' h => ?_
      obtain ⟨gI, gB, gS⟩ : GE ρ ρ'.I ρ'.B ρ'.S ρ'.V ρ'.F := h.g
      rw [List.mem_singleton.1 hp]
      exact ⟨_, _, hev ρ' gI, h24 ρ' gS, text66 w' he⟩
    · refine spKs_ok fun p hp ρ' H nl w' h => ?_
      obtain ⟨gI, gB, gS⟩ : GE ρ ρ'.I ρ'.B ρ'.S ρ'.V ρ'.F := h.g
      rw [List.mem_singleton.1 hp]
      exact ⟨_, _, haA ρ' gI, h25 ρ' gS, answers h1 h2 w' (tT h) 67 (.inl rfl)⟩
    · refine spKs_ok fun p hp ρ' H nl w' h => ?_
      obtain ⟨gI, gB, gS⟩ : GE ρ ρ'.I ρ'.B ρ'.S ρ'.V ρ'.F := h.g
      rw [List.mem_singleton.1 hp]
      exact ⟨_, _, haA ρ' gI, h25 ρ' gS, answers h1 h2 w' (tT h) 68 (.inr rfl)⟩
  rcases Nat.lt_or_ge 300 s.size with hbig | hsm
  · have spT : CallOk Tryd.prog (.plain w) (spL [(62, spTrue)]) := by
      refine spL_ok fun p hp => ?_
      rw [List.mem_singleton.1 hp]
      intro args H nl cs ls ρ' w' xs hr hx hh hc
      change spTrue args H nl cs = some ls at hr
      unfold spTrue at hr
      split at hr
      · cases hr; cases hx
        exact spV_ok (first62 w' (TabW.of (β := .plain w) hT rfl hh) (ErrW.of (β := .plain w) hE rfl hh)) rfl hh hc
      · cases hr
    refine calls_true (β := .plain w) (ρ := ρ) noExt spT rfl Tryd.func13 rfl (show (run Tryd.prog [] (spL [(62, spTrue)]) 4000 false 13 (entry Tryd.f13 (Tryd.f13.body.getD .ret) [evNm, sv 5, aA] .leaf 0 [(.cmp .gtr (.slen (.var 5)) (.lit 300), true)])).map (·.all (leafB (.lit true))) = some true by kernel_rfl) hx (HRel.start w _ hN) (CRel_cons.2 ⟨?_, CRel_nil.2 trivial⟩)
    have el : (IT.lit 300).den ρ = some 300 := rfl
    simp only [BT.den, s5, el, intCmp, Option.some.injEq, decide_eq_true_eq]
    omega
  · refine calls_true (β := ⟨w, [], GE ρ⟩) (ρ := ρ) noExt (sp hsm) rfl Tryd.func13 rfl run13f hx (HRel.startG w _ hN ⟨rfl, rfl, rfl⟩) (CRel_cons.2 ⟨?_, CRel_nil.2 trivial⟩)
    have el : (IT.lit 300).den ρ = some 300 := rfl
    simp only [BT.den, s5, el, intCmp, Option.some.injEq, decide_eq_false_iff_not]
    omega

end Ln
end Go.Proofs.YtagdcclpibjfoaaDoor
