/-
  Lines (3): what the program guesses a text to be, and its Parse.
-/
import Derived.Test.YtagdcclpibjfoaaDoorLi2
namespace Go.Proofs.YtagdcclpibjfoaaDoor
open Go.Vm
namespace Txt

/-- Just these names. -/
def GE (ρ0 : Env) : GP := fun I B S _ _ => I = ρ0.I ∧ B = ρ0.B ∧ S = ρ0.S
/-- What answers so where it is asked so. -/
def spKs (L : List (List AVal × AVal)) : SpG := fun args H nl cs => match L.find? (fun p => AVal.beqL p.1 args) with
  | some p => some [.ret p.2 H nl cs]
  | none => none
theorem spKs_ok {β : Base} {g : FuncId} {L : List (List AVal × AVal)} (h : ∀ p ∈ L, ∀ ρ H nl w, HRel β ρ H nl w → ∃ ys v, AVal.denL ρ p.1 = some ys ∧ p.2.den ρ = some v ∧ Calls Tryd.prog g ys.toArray w (fun e w' => e = .returned v ∧ Framed w w')) : SpGOk Tryd.prog β g (spKs L) := by
  intro args H nl cs ls ρ w xs hr hx hh hc
  unfold spKs at hr
  split at hr
  rotate_left
  · cases hr
  rename_i p hp
  cases hr
  have hb := List.find?_some hp
  have hm := List.mem_of_find?_eq_some hp
  have ha := AVal.beqL_eq _ _ hb
  obtain ⟨ys, v, h1, h2, h3⟩ := h p hm ρ H nl w hh
  rw [ha] at h1
  obtain rfl := Option.some.inj (h1.symm.trans hx)
  exact spV_ok h3 h2 hh hc
/-- strconv.Atoi of a text that has a name. -/
def spAt (k i b : Nat) : SpG := fun args H nl cs => match args with
  | [.str (.var j)] => cond (Nat.beq j k) (some [.ret (.tuple [.int .i64 (.var i), .nilIface]) H nl ((.var b, true) :: cs), .ret (.tuple [.int .i64 (.var i), .iface 180 (.ptr nl (.lit 0))]) H (nl + 1) ((.var b, false) :: cs)]) none
  | _ => none
theorem spAt_ok {β : Base} {k i b : Nat} {t : ByteArray} (hG : ∀ I B S V F, β.G I B S V F → S k = t ∧ I i = (atoiV t.data.toList).1 ∧ B b = (atoiV t.data.toList).2) (hs : t.size ≤ 10000) (hown : β.own = []) (hE : ErrW β.w0) : SpGOk Tryd.prog β 122 (spAt k i b) := by
  intro args H nl cs ls ρ w xs hr hx hh hc
  unfold spAt at hr
  split at hr
  rotate_left
  · cases hr
  rename_i j
  cases hb : Nat.beq j k with
  | false => rw [hb] at hr; cases hr
  | true =>
    rw [hb] at hr; cases hr
    obtain rfl := Nat.eq_of_beq_eq_true hb
    obtain ⟨g1, g2, g3⟩ := hG _ _ _ _ _ hh.g
    simp only [AVal.denL, AVal.den, ST.den, g1, Option.some.injEq] at hx
    subst hx
    refine (atoi122a w (hE.of hown hh) t (by omega)).mono fun e w' ha => ?_
    rcases ha with ⟨h1, he, hf⟩ | ⟨h1, N, he, hf⟩
    · exact ⟨_, he, _, _, _, _, ρ, List.mem_cons_self, Env.Le.refl ρ, by simp only [AVal.den, AVal.denL, IT.den, g2, Option.map_some], hh.framed hf, CRel_cons.2 ⟨by simp only [BT.den, g3, h1], hc⟩⟩
    · have hN := (hh.framed hf).num N
      have hle := Env.le_put (b := N) (hh.fresh nl (Nat.le_refl _))
      refine ⟨_, he, _, _, _, _, ρ.put nl N, List.mem_cons_of_mem _ List.mem_cons_self, hle, ?_, hN, CRel_cons.2 ⟨BT.den_mono hle (by simp only [BT.den, g3, h1]), hc.mono hle⟩⟩
      have e0 : natOf ((IT.lit 0).den (ρ.put nl N)) = some 0 := rfl
      have eI : (IT.var i).den (ρ.put nl N) = some (atoiV t.data.toList).1 := by show some (ρ.I i) = _; rw [g2]
      simp only [AVal.den, AVal.denL, eI, Env.put_same, e0, Option.map_some]
/-- The one, or the other. -/
def orE (a b : SpG) : SpG := fun args H nl cs => match a args H nl cs with
  | some l => some l
  | none => b args H nl cs
theorem orE_ok {β : Base} {g : FuncId} {a b : SpG} (ha : SpGOk Tryd.prog β g a) (hb : SpGOk Tryd.prog β g b) : SpGOk Tryd.prog β g (orE a b) := by
  intro args H nl cs ls ρ w xs hr hx hh hc
  unfold orE at hr
  split at hr
  · rename_i l hl
    cases hr
    exact ha args H nl cs _ ρ w xs hl hx hh hc
  · exact hb args H nl cs _ ρ w xs hr hx hh hc
-- THE WORDS OF THE REST
theorem rest_words {l : List UInt8} {ws : List (List UInt8)} (h : WordsIn ws l) : (wordsOf (joinW (ws.drop 1))).getD 0 [] = ws.getD 1 [] ∧ joinW ((wordsOf (joinW (ws.drop 1))).drop 1) = joinW (ws.drop 2) := by
  match ws, h with
  | [], h => exact absurd rfl h.ne
  | [x], _ => exact ⟨rfl, rfl⟩
  | x :: y :: r, h =>
    have hj : wordsOf (joinW (y :: r)) = y :: r := words_join (by simp) fun z hz => h.no z (List.mem_cons_of_mem _ hz)
    show (wordsOf (joinW (y :: r))).getD 0 [] = y ∧ joinW ((wordsOf (joinW (y :: r))).drop 1) = joinW r
    rw [hj]; exact ⟨rfl, rfl⟩
theorem drop_le : ∀ (ws : List (List UInt8)) (k : Nat), (joinW (ws.drop k)).length ≤ (joinW ws).length
  | ws, 0 => by simp
  | [], k + 1 => by simp
  | [x], k + 1 => by simp [joinW]
  | x :: y :: r, k + 1 => by
    have := drop_le (y :: r) k
    show (joinW ((y :: r).drop k)).length ≤ (x ++ (32 :: joinW (y :: r))).length
    simp only [List.length_append, List.length_cons]
    omega
theorem word_size {l : List UInt8} (i : Nat) : ((wordsOf l).getD i []).length ≤ l.length := by
  have h := words_in l
  rcases Nat.lt_or_ge i (wordsOf l).length with hi | hi
  · have := word_le (getD_mem hi)
    rw [h.join] at this; exact this
  · rw [List.getD_eq_getElem?_getD, List.getElem?_eq_none hi]; simp
theorem pq_form (ws : List (List UInt8)) : ∃ t, parV ws = .tuple #[opV4 (pqC ws) (pqK ws) (pqA ws) (pqB ws), .bool t] := by
  unfold parV pqC pqK pqA pqB
  split
  · exact ⟨true, rfl⟩
  · exact ⟨false, rfl⟩
-- GUESS
def sv (k : Nat) : AVal := .str (.var k)
def blk : AVal := .str (.lit [32])
def spGs : CallF := spL [(103, spKs [([sv 5, blk], .tuple [sv 20, sv 21, .bool (.var 0)]), ([sv 21, blk], .tuple [sv 22, sv 23, .bool (.var 1)])]), (122, orE (spAt 22 30 2) (spAt 23 31 4)), (54, spKs [([sv 23], .tuple [.agg [iv 32, iv 33, iv 34, iv 35], .bool (.var 3)])])]
def csF (c : Nat) : Cs := evK.zipIdx.map fun p => (.seq (.lit p.1) (.var 20), Nat.beq p.2 c)
def gV (c : Nat) : AVal := .agg [.int .i64 (.lit (if c < 6 then (c : Int) else -1)), iv 30, if c = 4 then iv 31 else .int .i64 (.lit 0), if c = 5 then iv 31 else .int .i64 (.lit 0), if c = 1 then iv 32 else .int .i64 (.lit 0), if c = 1 then iv 33 else .int .i64 (.lit 0), if c = 1 then iv 34 else .int .i64 (.lit 0), if c = 1 then iv 35 else .int .i64 (.lit 0)]
def RunG (c : Nat) : Prop := (run Tryd.prog [(127, .same)] spGs 8000 false 108 (entry Tryd.f108 (Tryd.f108.body.getD .ret) [sv 5] .leaf 0 (csF c))).map (·.all (retIs (gV c))) = some true
theorem rG0 : RunG 0 := by unfold RunG; kernel_rfl
theorem rG1 : RunG 1 := by unfold RunG; kernel_rfl
theorem rG2 : RunG 2 := by unfold RunG; kernel_rfl
theorem rG3 : RunG 3 := by unfold RunG; kernel_rfl
theorem rG4 : RunG 4 := by unfold RunG; kernel_rfl
theorem rG5 : RunG 5 := by unfold RunG; kernel_rfl
theorem rG6 : RunG 6 := by unfold RunG; kernel_rfl
theorem rG_all {c : Nat} (h : c ≤ 6) : RunG c := by
  rcases (show c = 0 ∨ c = 1 ∨ c = 2 ∨ c = 3 ∨ c = 4 ∨ c = 5 ∨ c = 6 by omega) with rfl | rfl | rfl | rfl | rfl | rfl | rfl
  · exact rG0
  · exact rG1
  · exact rG2
  · exact rG3
  · exact rG4
  · exact rG5
  · exact rG6
theorem evK_nodup : evK.Nodup := by decide
theorem ev_at {w : List UInt8} {q : List UInt8 × Nat} (hq : q ∈ evK.zipIdx) : (q.1 == w) = Nat.beq q.2 (evK.idxOf w) := by
  have hg : evK[q.2]? = some q.1 := by
    have := List.mem_zipIdx' hq
    exact (List.getElem?_eq_getElem this.1).trans (congrArg some this.2.symm)
  obtain ⟨hlt, he⟩ := List.getElem?_eq_some_iff.1 hg
  rw [Bool.eq_iff_iff, beq_iff_eq, Nat.beq_eq]
  constructor
  · intro e
    rw [← e, ← he, evK_nodup.idxOf_getElem]
  · intro e
    rw [← he]
    have h2 : evK.idxOf w < evK.length := by rw [← show q.2 = evK.idxOf w from e]; exact hlt
    have := List.getElem_idxOf h2
    simp only [show q.2 = evK.idxOf w from e, this]
def ρG (s : ByteArray) (ws : List (List UInt8)) (b0 b1 b3 : Bool) : Env :=
  ⟨fun i => if i = 30 then (atoiV (ws.getD 1 [])).1 else if i = 31 then (atoiV (joinW (ws.drop 2))).1 else if i = 32 then pqC (wordsOf (joinW (ws.drop 2))) else if i = 33 then pqK (wordsOf (joinW (ws.drop 2))) else if i = 34 then pqA (wordsOf (joinW (ws.drop 2))) else if i = 35 then pqB (wordsOf (joinW (ws.drop 2))) else 0,
   fun i => if i = 0 then b0 else if i = 1 then b1 else if i = 2 then (atoiV (ws.getD 1 [])).2 else if i = 3 then b3 else (atoiV (joinW (ws.drop 2))).2,
   fun i => if i = 5 then s else if i = 20 then bytes (ws.getD 0 []) else if i = 21 then bytes (joinW (ws.drop 1)) else if i = 22 then bytes (ws.getD 1 []) else bytes (joinW (ws.drop 2)), fun _ => undef, fun _ => none, F0⟩
def gOf (ws : List (List UInt8)) : Evt := ⟨kidx (ws.getD 0 []), (atoiV (ws.getD 1 [])).1, if kidx (ws.getD 0 []) = 4 then (atoiV (joinW (ws.drop 2))).1 else 0, if kidx (ws.getD 0 []) = 5 then (atoiV (joinW (ws.drop 2))).1 else 0, if kidx (ws.getD 0 []) = 1 then pqC (wordsOf (joinW (ws.drop 2))) else 0, if kidx (ws.getD 0 []) = 1 then pqK (wordsOf (joinW (ws.drop 2))) else 0, if kidx (ws.getD 0 []) = 1 then pqA (wordsOf (joinW (ws.drop 2))) else 0, if kidx (ws.getD 0 []) = 1 then pqB (wordsOf (joinW (ws.drop 2))) else 0⟩
theorem guess108 (w : World) (hT : TabW w) (hM : MaxW w) (hE : ErrW w) (s : ByteArray) (hs : s.size ≤ 10000) : Calls Tryd.prog 108 #[.string s] w (fun e w' => e = .returned (evV (guess s.data.toList)) ∧ Framed w w') := by
  have hsz : s.data.toList.length = s.size := by simp
  have hin := words_in s.data.toList
  have hws1 : ((wordsOf s.data.toList).getD 1 []).length ≤ s.data.toList.length := word_size 1
  obtain ⟨hr1, hr2⟩ := rest_words hin
  have hgs : guess s.data.toList = gOf (wordsOf s.data.toList) := rfl
  have hcut := fun w' (h : MaxW w') => cut103a w' h s hs
  generalize wordsOf s.data.toList = ws at hin hws1 hr1 hr2 hgs hcut
  have hd1 := drop_le ws 1
  have hd2 := drop_le ws 2
  rw [hin.join] at hd1 hd2
  obtain ⟨b3, hb3⟩ := pq_form (wordsOf (joinW (ws.drop 2)))
  generalize hρ : ρG s ws (decide (2 ≤ ws.length)) (decide (2 ≤ (wordsOf (joinW (ws.drop 1))).length)) b3 = ρ
  have hle : evK.idxOf (ws.getD 0 []) ≤ 6 := List.idxOf_le_length
  have hN : ∀ i, ρ.N i = none := fun i => by rw [← hρ]; rfl
  have hx : AVal.denL ρ [sv 5] = some [.string s] := by rw [← hρ]; rfl
  have hrun := rG_all hle
  unfold RunG at hrun
  refine calls_ret (β := ⟨w, [], GE ρ⟩) (ρ := ρ) ext1_ok (spL_ok fun p hp => ?_) rfl Tryd.func108 rfl hrun hx (HRel.startG w _ hN ⟨rfl, rfl, rfl⟩) (fun p hp => ?_) (fun ρ' hle' => ?_)
  · have tT : ∀ {ρ' : Env} {H : Heap} {nl : Nat} {w' : World}, HRel ⟨w, [], GE ρ⟩ ρ' H nl w' → TabW w' := fun h => TabW.of hT rfl h
    have tM : ∀ {ρ' : Env} {H : Heap} {nl : Nat} {w' : World}, HRel ⟨w, [], GE ρ⟩ ρ' H nl w' → MaxW w' := fun h => by obtain ⟨m, hm⟩ := hM; exact ⟨m, cell_of' (β := ⟨w, [], GE ρ⟩) hm rfl h⟩
    have tE : ∀ {ρ' : Env} {H : Heap} {nl : Nat} {w' : World}, HRel ⟨w, [], GE ρ⟩ ρ' H nl w' → ErrW w' := fun h => ErrW.of (β := ⟨w, [], GE ρ⟩) hE rfl h
    have g : ∀ {ρ' : Env} {H : Heap} {nl : Nat} {w' : World}, HRel ⟨w, [], GE ρ⟩ ρ' H nl w' → ρ'.I = ρ.I ∧ ρ'.B = ρ.B ∧ ρ'.S = ρ.S := fun h => h.g
    simp only [spGs, List.mem_cons, List.not_mem_nil, or_false] at hp
    rcases hp with rfl | rfl | rfl
    · refine spKs_ok fun p hp ρ' H nl w' h => ?_
      obtain ⟨gI, gB, gS⟩ := g h
      simp only [List.mem_cons, List.not_mem_nil, or_false] at hp
      rcases hp with rfl | rfl
      · refine ⟨[.string s, .string (bytes [32])], _, ?_, ?_, hcut w' (tM h)⟩
        · simp only [sv, blk, AVal.denL, AVal.den, ST.den, gS]
          rw [← hρ]; rfl
        · simp only [sv, AVal.denL, AVal.den, ST.den, BT.den, gS, gB, Option.map_some]
          rw [← hρ]; rfl
      · have hc2 := cut103a w' (tM h) (bytes (joinW (ws.drop 1))) (by rw [bytes_size]; omega)
        rw [bytes_toList, hr1, hr2] at hc2
        refine ⟨[.string (bytes (joinW (ws.drop 1))), .string (bytes [32])], _, ?_, ?_, hc2⟩
        · simp only [sv, blk, AVal.denL, AVal.den, ST.den, gS]
          rw [← hρ]; rfl
        · simp only [sv, AVal.denL, AVal.den, ST.den, BT.den, gS, gB, Option.map_some]
          rw [← hρ]; rfl
    · refine orE_ok (spAt_ok (t := bytes (ws.getD 1 [])) (fun I B S V F h => ?_) (by rw [bytes_size]; omega) rfl hE) (spAt_ok (t := bytes (joinW (ws.drop 2))) (fun I B S V F h => ?_) (by rw [bytes_size]; omega) rfl hE)
      · obtain ⟨gI, gB, gS⟩ := h
        rw [gI, gB, gS, ← hρ, bytes_toList]
        exact ⟨rfl, rfl, rfl⟩
      · obtain ⟨gI, gB, gS⟩ := h
        rw [gI, gB, gS, ← hρ, bytes_toList]
        exact ⟨rfl, rfl, rfl⟩
    · refine spKs_ok fun p hp ρ' H nl w' h => ?_
      obtain ⟨gI, gB, gS⟩ := g h
      simp only [List.mem_cons, List.not_mem_nil, or_false] at hp
      subst hp
      have hp54 := parse54a w' (tT h) (tM h) (tE h) (bytes (joinW (ws.drop 2))) (by rw [bytes_size]; omega)
      rw [bytes_toList, hb3] at hp54
      refine ⟨[.string (bytes (joinW (ws.drop 2)))], _, ?_, ?_, hp54⟩
      · simp only [sv, AVal.denL, AVal.den, ST.den, gS]
        rw [← hρ]; rfl
      · simp only [iv, AVal.denL, AVal.den, IT.den, BT.den, gI, gB, Option.map_some]
        rw [← hρ]; rfl
  · obtain ⟨q, hq, rfl⟩ := List.mem_map.1 hp
    show (BT.seq (.lit q.1) (.var 20)).den ρ = some (Nat.beq q.2 (evK.idxOf (ws.getD 0 [])))
    rw [seqD]
    have hS : (ST.var 20).den ρ = bytes (ws.getD 0 []) := by rw [← hρ]; rfl
    rw [hS, bytes_toList, ← ev_at hq]
    simp [ST.den]
  · have hI : ρ'.I = ρ.I := hle'.i
    have e30 : ρ'.I 30 = (atoiV (ws.getD 1 [])).1 := by rw [hI, ← hρ]; rfl
    have e31 : ρ'.I 31 = (atoiV (joinW (ws.drop 2))).1 := by rw [hI, ← hρ]; rfl
    have e32 : ρ'.I 32 = pqC (wordsOf (joinW (ws.drop 2))) := by rw [hI, ← hρ]; rfl
    have e33 : ρ'.I 33 = pqK (wordsOf (joinW (ws.drop 2))) := by rw [hI, ← hρ]; rfl
    have e34 : ρ'.I 34 = pqA (wordsOf (joinW (ws.drop 2))) := by rw [hI, ← hρ]; rfl
    have e35 : ρ'.I 35 = pqB (wordsOf (joinW (ws.drop 2))) := by rw [hI, ← hρ]; rfl
    rw [hgs]
    unfold gOf
    have hk : kidx (ws.getD 0 []) = if evK.idxOf (ws.getD 0 []) < 6 then (evK.idxOf (ws.getD 0 []) : Int) else -1 := rfl
    generalize evK.idxOf (ws.getD 0 []) = c at hle hk
    simp only [hk]
    rcases (show c = 0 ∨ c = 1 ∨ c = 2 ∨ c = 3 ∨ c = 4 ∨ c = 5 ∨ c = 6 by omega) with rfl | rfl | rfl | rfl | rfl | rfl | rfl
    all_goals
      simp [gV, AVal.den, AVal.denL, iv, IT.den, e30, e31, e32, e33, e34, e35, evV]
-- PARSE
def evNm : AVal := .agg [iv 40, iv 41, iv 42, iv 43, iv 44, iv 45, iv 46, iv 47]
def sp63 : CallF := spL [(108, spKs [([sv 5], evNm)]), (65, spKs [([evNm], sv 24)])]
def zV : AVal := .agg [.int .i64 (.lit 0), .int .i64 (.lit 0), .int .i64 (.lit 0), .int .i64 (.lit 0), .int .i64 (.lit 0), .int .i64 (.lit 0), .int .i64 (.lit 0), .int .i64 (.lit 0)]
def Run63 (x y : Bool) (u : AVal) : Prop := (run Tryd.prog [(127, .same)] sp63 8000 false 63 (entry Tryd.f63 (Tryd.f63.body.getD .ret) [sv 5] .leaf 0 [(.seq (.var 5) (.lit []), x), (.not (.seq (.var 24) (.var 5)), y)])).map (·.all (retIs u)) = some true
theorem r63a : Run63 true true (.tuple [zV, .bool (.lit false)]) := by unfold Run63; kernel_rfl
theorem r63b : Run63 true false (.tuple [zV, .bool (.lit false)]) := by unfold Run63; kernel_rfl
theorem r63c : Run63 false true (.tuple [zV, .bool (.lit false)]) := by unfold Run63; kernel_rfl
theorem r63d : Run63 false false (.tuple [evNm, .bool (.lit true)]) := by unfold Run63; kernel_rfl
def ρP (s : ByteArray) (e : Evt) (t : ByteArray) : Env := ⟨fun i => [e.k, e.w, e.o, e.n, e.c, e.y, e.a, e.b].getD (i - 40) 0, fun _ => false, fun i => if i = 5 then s else t, fun _ => undef, fun _ => none, F0⟩
open Classical in
/-- What both readers answer. -/
noncomputable def readV (l : List UInt8) : Value := if refOk (wordsOf l) then .tuple #[evV (refE (wordsOf l)), .bool true] else .tuple #[evV .z, .bool false]
theorem guess_in (l : List UInt8) : EvIn (guess l) := by
  have ha := atoiV_rng
  have hz : InJ 0 := ⟨by decide, by decide⟩
  have hk : InJ (kidx ((wordsOf l).getD 0 [])) := by
    unfold kidx
    split
    · constructor <;> omega
    · exact ⟨by decide, by decide⟩
  have hp : ∀ ws, InJ (pqC ws) ∧ InJ (pqK ws) ∧ InJ (pqA ws) ∧ InJ (pqB ws) := fun ws => by
    unfold pqC pqK pqA pqB
    cases hb : parOk ws with
    | false => simp only [Bool.false_eq_true, if_false]; exact ⟨hz, hz, hz, hz⟩
    | true =>
      simp only [if_true]
      obtain ⟨_, hr⟩ := par_words hb
      simp only [rightB, decide_eq_true_eq] at hr
      refine ⟨⟨by omega, by omega⟩, ⟨by omega, by omega⟩, ⟨by omega, by omega⟩, ⟨by omega, by omega⟩⟩
  have hi : ∀ {p : Prop} [Decidable p] {x : Int}, InJ x → InJ (if p then x else 0) := fun {p} _ {x} h => by split <;> assumption
  exact ⟨hk, ha _, hi (ha _), hi (ha _), hi (hp _).1, hi (hp _).2.1, hi (hp _).2.2.1, hi (hp _).2.2.2⟩
theorem parse63a (w : World) (hT : TabW w) (hM : MaxW w) (hE : ErrW w) (s : ByteArray) (hs : s.size ≤ 10000) : Calls Tryd.prog 63 #[.string s] w (fun e w' => e = .returned (readV s.data.toList) ∧ Framed w w') := by
  obtain ⟨h1, h2⟩ := lin_ref s.data.toList
  have hin := guess_in s.data.toList
  have hg := fun w' hT' hM' hE' => guess108 w' hT' hM' hE' s hs
  generalize hgs : guess s.data.toList = e at h2 hin hg
  generalize hρ : ρP s e (bytes (evText e)) = ρ
  have hN : ∀ i, ρ.N i = none := fun i => by rw [← hρ]; rfl
  have hx : AVal.denL ρ [sv 5] = some [.string s] := by rw [← hρ]; rfl
  have hev : ∀ ρ' : Env, ρ'.I = ρ.I → evNm.den ρ' = some (evV e) := fun ρ' hI => by
    simp only [evNm, iv, AVal.den, AVal.denL, IT.den, hI, Option.map_some]
    rw [← hρ]; rfl
  have hsp : CallOk Tryd.prog ⟨w, [], GE ρ⟩ sp63 := by
    refine spL_ok fun p hp => ?_
    simp only [List.mem_cons, List.not_mem_nil, or_false] at hp
    rcases hp with rfl | rfl
    · refine spKs_ok fun p hp ρ' H nl w' h => ?_
      obtain ⟨gI, gB, gS⟩ : GE ρ ρ'.I ρ'.B ρ'.S ρ'.V ρ'.F := h.g
      rw [List.mem_singleton.1 hp]
      refine ⟨[.string s], _, ?_, hev ρ' gI, hg w' (TabW.of hT rfl h) (by obtain ⟨m, hm⟩ := hM; exact ⟨m, cell_of' (β := ⟨w, [], GE ρ⟩) hm rfl h⟩) (ErrW.of (β := ⟨w, [], GE ρ⟩) hE rfl h)⟩
      simp only [sv, AVal.denL, AVal.den, ST.den, gS]
      rw [← hρ]; rfl
    · refine spKs_ok fun p hp ρ' H nl w' h => ?_
      obtain ⟨gI, gB, gS⟩ : GE ρ ρ'.I ρ'.B ρ'.S ρ'.V ρ'.F := h.g
      rw [List.mem_singleton.1 hp]
      refine ⟨[evV e], _, by simp only [AVal.denL, hev ρ' gI], ?_, text65 w' (TabW.of hT rfl h) hin⟩
      simp only [sv, AVal.den, ST.den, gS]
      rw [← hρ]; rfl
  have d5 : (BT.seq (.var 5) (.lit [])).den ρ = some (s.data.toList == []) := by
    rw [seqD, ← hρ]; rfl
  have d24 : (BT.not (.seq (.var 24) (.var 5))).den ρ = some (!(evText e == s.data.toList)) := by
    simp only [BT.den.eq_4, seqD]
    rw [← hρ]
    show some (!((bytes (evText e)).data.toList == s.data.toList)) = _
    rw [bytes_toList]
  have go : ∀ {x y : Bool} {u : AVal} {v : Value}, Run63 x y u → (s.data.toList == []) = x → (!(evText e == s.data.toList)) = y → (∀ ρ', ρ.Le ρ' → u.den ρ' = some v) → Calls Tryd.prog 63 #[.string s] w (fun e w' => e = .returned v ∧ Framed w w') := fun {x y u v} hr ex ey hu =>
    calls_ret (β := ⟨w, [], GE ρ⟩) (ρ := ρ) ext1_ok hsp rfl Tryd.func63 rfl hr hx (HRel.startG w _ hN ⟨rfl, rfl, rfl⟩) (CRel_cons.2 ⟨d5.trans (congrArg some ex), CRel_cons.2 ⟨d24.trans (congrArg some ey), CRel_nil.2 trivial⟩⟩) hu
  have hlin : linOk s.data.toList ↔ s.data.toList ≠ [] ∧ evText e = s.data.toList := by unfold linOk; rw [hgs]
  have hno : ¬ linOk s.data.toList → readV s.data.toList = .tuple #[evV .z, .bool false] := fun h => by unfold readV; rw [if_neg (fun h' => h (h1.2 h'))]
  cases ex : (s.data.toList == []) with
  | true =>
    have hn : ¬ linOk s.data.toList := fun h => (hlin.1 h).1 (by simpa using ex)
    rw [hno hn]
    cases ey : (!(evText e == s.data.toList)) with
    | true => exact go r63a ex ey fun _ _ => rfl
    | false => exact go r63b ex ey fun _ _ => rfl
  | false =>
    cases ey : (!(evText e == s.data.toList)) with
    | true =>
      have hn : ¬ linOk s.data.toList := fun h => by
        have := (hlin.1 h).2
        rw [this] at ey
        simp at ey
      rw [hno hn]
      exact go r63c ex ey fun _ _ => rfl
    | false =>
      have ht : evText e = s.data.toList := by simpa using ey
      have hl : linOk s.data.toList := hlin.2 ⟨by simpa using ex, ht⟩
      have hv : readV s.data.toList = .tuple #[evV e, .bool true] := by unfold readV; rw [if_pos (h1.1 hl), ← h2 hl]
      rw [hv]
      exact go r63d ex ey fun ρ' hle => by simp only [AVal.den, AVal.denL, hev ρ' hle.i, BT.den, Option.map_some]
end Txt
end Go.Proofs.YtagdcclpibjfoaaDoor
