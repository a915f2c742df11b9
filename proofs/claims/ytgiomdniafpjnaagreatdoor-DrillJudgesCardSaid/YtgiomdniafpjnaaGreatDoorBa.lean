/-
  What every law of this seat asks for: the program's facts; a law's end when only new memory was written.
-/
import Derived.Test.YtgiomdniafpjnaaGreatDoorChecked
import Derived.Test.YtgiomdniafpjnaaGreatDoorRows
import Derived.Test.YtgiomdniafpjnaaGreatDoorVm21
import Derived.WalkKit
import Derived.ProofKit
import Derived.OpenShut
import Derived.Deep.DeepHandedRow
namespace Go.Proofs.YtgiomdniafpjnaaGreatDoor
open Go.ChangeShapes Go.WideShapes Go.ChangeAt Go.RowKit Go.Vm

theorem noCount : NoCount Tryz.prog := by
  intro g fn h
  have h1 : (Tryz.prog.funcs.toList.all fun fn => !(fn.name == "runtime.NumGoroutine")) = true := by kernel_rfl
  have h2 : fn ∈ Tryz.prog.funcs.toList := Array.mem_toList_iff.2 (Array.mem_of_getElem? h)
  have h3 := List.all_eq_true.1 h1 fn h2
  simpa using h3
theorem follows : Tryz.prog.follows .mixedOrders = true := by kernel_rfl
def noSpecs : Specs := []
theorem noSpecs_ok : ∀ p ∈ noSpecs, SpecOk Tryz.prog p.1 p.2 := fun _ h => by cases h

/-- Where nothing is known but these. -/
def envOf (I : List Int) (V : List Value) (F : Nat → Int → Int → Int) : Env := ⟨fun i => I.getD i 0, fun _ => false, fun _ => default, fun i => V.getD i undef, fun _ => none, F, fun _ => none⟩
def F0 : Nat → Int → Int → Int := fun _ _ _ => 0

section
variable {H : Type} {enc : TypeId × Value → H} {P : Program} {W W' : World}

theorem below_of_framed (f : Framed W W') : Below W.heap.size W W' := ⟨f.os, f.tape, f.out, f.size, f.frame⟩

theorem all_stay (hl : laidOutB P = true) {sp : Nat → Bool} (hb : Below W.heap.size W W') : ∀ {ts : List TypeId} {vs : List Value} {ds : List (DataW H)} {ps : List MemPlace},
    (∀ t ∈ ts, P.readableRec t = true ∧ t < P.types.size) → DataW.TrodAll enc P W 0 (fun _ => true) true ts vs ds ps → (∀ x ∈ ps, x.block < W.heap.size) → (∀ x ∈ ps, sp x.block = true) → DataW.TrodAll enc P W' 0 sp true ts vs ds ps
  | [], vs, ds, ps, _, h, _, _ => by
    obtain ⟨rfl, rfl, rfl⟩ := trodAll_nil h
    exact trodAll_mk0
  | t :: ts, vs, ds, ps, ht, h, hlt, hs => by
    obtain ⟨v, vs', d, ds', p, q, rfl, rfl, rfl, h1, h2⟩ := trodAll_cons h
    obtain ⟨hr, hrow⟩ := ht t List.mem_cons_self
    exact trodAll_cons_mk
      (WideElems.Trod_stays hl hr hrow h1 (fun x hx => hb.same (hlt x (List.mem_append.2 (.inl hx)))) (fun x hx => hs x (List.mem_append.2 (.inl hx))))
      (all_stay hl hb (fun u hu => ht u (List.mem_cons_of_mem _ hu)) h2 (fun x hx => hlt x (List.mem_append.2 (.inr hx))) (fun x hx => hs x (List.mem_append.2 (.inr hx))))

/-- A law's end: it answered true; of what was there nothing has turned. -/
theorem law_shut (hl : laidOutB P = true) {f : Func} {s : ChangeSpec} {apart fresh handsOn again : Bool} {args : Array Value} {ds gs : List (DataW H)} {before : List MemPlace}
    (hts : ∀ t ∈ f.params.toList, P.readableRec t = true ∧ t < P.types.size) {tb : TypeId} (hrt : f.resultTypes = #[tb]) (hub : P.underlying tb = some .bool)
    (hW : DataW.Whole enc P f.params.toList s.vars apart W args.toList ds gs before) (hsv : s.vars = []) (hres : (s.fn H ds).results = [.lit (.bool true)]) (hargs : (s.fn H ds).args = ds) (hvars : (s.fn H ds).vars = [])
    (hb : Below W.heap.size W W') : s.post enc P f apart fresh handsOn again W args (.bool true) W' := by
  have hW' := hW
  have hlt : ∀ x ∈ before, x.block < W.heap.size := fun x hx => hW.lt x hx
  obtain ⟨pa, pv, hA, hV, rfl, hz, hn⟩ := hW
  rw [hsv] at hV
  obtain ⟨rfl, rfl⟩ := trodVars_none hV
  have hR : ∀ (b : Nat) (sp : Nat → Bool) (hd : Bool), DataW.TrodAll enc P W' b sp hd f.resultTypes.toList ((Value.bool true).resultList f.resultTypes.size) (s.fn H (ds ++ [])).results [] := by
    intro b sp hd
    rw [List.append_nil, hres, hrt]
    exact trodAll_mk1 (shut_bool hub _)
  have hA' : ∀ sp : Nat → Bool, (∀ p ∈ pa ++ [], sp p.block = true) → DataW.TrodAll enc P W' 0 sp true f.params.toList args.toList (s.fn H (ds ++ [])).args pa := by
    intro sp hsp
    rw [List.append_nil, hargs]
    exact all_stay hl hb hts hA (fun x hx => hlt x (List.mem_append.2 (.inl hx))) (fun x hx => hsp x (List.mem_append.2 (.inl hx)))
  have hV' : ∀ sp : Nat → Bool, DataW.TrodVars enc P W' sp s.vars (s.fn H (ds ++ [])).vars [] := by
    intro sp
    rw [List.append_nil, hvars, hsv]
    rfl
  have hold : ∀ p ∈ pa ++ [], (fun b => decide (b < W.heap.size)) p.block = true := fun p hp => by simpa using hlt p hp
  refine ⟨ds, [], pa ++ [], [], pa, [], hW', hR _ _ _, hA' _ hold, hV' _, hb.frame _, fun _ => ⟨ok_one hrt rfl (okWide_bool_mk hub _), _, _, ([] ++ pa) ++ [], ⟨[] ++ pa, [], trodAll_append (hA' _ (fun _ _ => rfl)) (hR _ _ _), hV' _, rfl, ?_, ?_⟩, ?_⟩⟩
  · intro b off hp
    have hp' : MemPlace.cell b off ∈ pa ++ [] := by simpa using hp
    rw [hb.frozen (p := ⟨b, off, none⟩) (hlt _ hp')]
    exact hz b off hp'
  · intro ha
    simpa using hn ha
  · intro p hp _
    simpa using hp

theorem one_int {base : Nat} {sp : Nat → Bool} {held : Bool} {n : Nat} {t : TypeId} {k : IntKind} {c : Value} {y : DataW H × List MemPlace} (ht : P.underlying t = some (.int k)) (h : DataW.trod enc P W base sp held n t [c] = some y) : ∃ z, c = .int k z := by
  obtain ⟨z, hz, _⟩ := DataW.trod_int ht h
  simp only [List.cons.injEq, and_true] at hz
  exact ⟨z, hz⟩
end


theorem lk_cons {α : Type} (i j : Nat) (x : α) (r : List (Nat × α)) : lk ((i, x) :: r) j = if i = j then some x else lk r j := by
  simp only [lk]
  by_cases h : i = j
  · subst h; simp
  · have : Nat.beq i j = false := by
      cases hb : Nat.beq i j with
      | false => rfl
      | true => exact absurd (Nat.eq_of_beq_eq_true hb) h
    simp [this, h]
theorem lk_nil {α : Type} (j : Nat) : lk ([] : List (Nat × α)) j = none := rfl
/-- A law, by a run: every end is 'true', or cannot be. -/
theorem calls_true {β : Base} {E : Exts} (hE : ExtOk Tryz.prog E) {sp : CallF} (hsp : CallOk Tryz.prog β sp) (hown : β.own = noO) {n : Nat} {f : FuncId} {fn : Func} {c : Code} {args : List AVal} {xs : List Value} {H : Heap} {nl : Nat} {cs : Cs} {ρ : Env} {w : World}
    (hf : Tryz.prog.funcs[f]? = some fn) (hb : fn.body = some c) (hrun : (run Tryz.prog E sp n false f (entry fn c args H nl cs)).map (·.all (leafB (.lit true))) = some true) (hx : AVal.denL ρ args = some xs) (hr : HRel β ρ H nl w) (hcs : CRel ρ cs) :
    Calls Tryz.prog f xs.toArray w (fun e w' => e = .returned (.bool true) ∧ Framed β.w0 w') := by
  obtain ⟨ls, hls, hall⟩ := Option.map_eq_some_iff.1 hrun
  have fr : ∀ {ρ' : Env} {H' : Heap} {nl' : Nat} {w' : World}, HRel β ρ' H' nl' w' → Framed β.w0 w' := fun hr => ⟨hr.size, fun b hb => hr.frame b hb (by rw [hown]; exact id), hr.tape, hr.os, hr.out⟩
  refine (run_calls noCount hE hsp follows hf hb hls hx hr hcs (R := fun v w' => v = .bool true ∧ Framed β.w0 w') (fun l hl => ?_)).mono fun e w' ⟨v, he, hv, hfr⟩ => ⟨by rw [he, hv], hfr⟩
  have h1 := List.all_eq_true.1 hall l hl
  cases l with
  | stop cs' => exact dead_ok h1
  | pause S => exact fun ρ' a' w' hle hr => (dead_ok (ρ := ρ) h1 ρ' hle hr.c).elim
  | ret v H nl cs' =>
    intro ρ' w' x hle hxd hr hc'
    refine ⟨?_, fr hr⟩
    unfold leafB at h1
    split at h1
    · rename_i b' _ _ cs'' heq
      cases heq
      have := den_litb hxd
      subst this
      cases b' with
      | true => rfl
      | false => exact (dead_ok (ρ := ρ') h1 ρ' (Env.Le.refl ρ') (hc'.cons rfl)).elim
    · rename_i t _ _ cs'' _ heq
      cases heq
      obtain ⟨b', rfl, hb'⟩ := den_bool hxd
      simp only [Bool.and_eq_true] at h1
      cases b' with
      | true => rfl
      | false => exact (dead_ok (ρ := ρ') h1.1 ρ' (Env.Le.refl ρ') ((hc'.cons hb').cons rfl)).elim
    · rename_i heq
      cases heq
      exact (dead_ok (ρ := ρ) h1 ρ' hle hc').elim
    · rename_i heq; cases heq
    · rename_i heq; cases heq

end Go.Proofs.YtgiomdniafpjnaaGreatDoor
