/-
  A machine for abstract states over the model (part 14): the machine.
-/
import Derived.Test.YtjjijagclgambaaGreatDoorVmM
import Derived.ScopeJumps
namespace Go.Vm

inductive Leaf where
  | ret (v : AVal) (H : Heap) (nl : Nat) (cs : Cs)
  | pause (S : St)
  | stop (cs : Cs)
inductive SO where
  | st (S : St)
  | stop (cs : Cs)
def Dead (ρ : Env) (cs : Cs) : Prop := ∀ ρ', ρ.Le ρ' → ¬ CRel ρ' cs
theorem Dead.mono {ρ ρ' : Env} (h : ρ.Le ρ') {cs : Cs} (d : Dead ρ cs) : Dead ρ' cs := fun r hr => d r (h.trans hr)
def Leaf.dead (ρ : Env) : Leaf → Prop
  | .stop cs => Dead ρ cs
  | .pause S => Dead ρ S.cs
  | .ret .. => True
def SO.dead (ρ : Env) : SO → Prop
  | .stop cs => Dead ρ cs
  | .st _ => True

/-- What is known of operations that the machine can't do. -/
abbrev OpF := Op → Ev → Heap → Nat → Cs → Option (List Leaf)
def noOp : OpF := fun _ _ _ _ _ => none
structure CallF where
  fn : FuncId → List AVal → Heap → Nat → Cs → Option (List Leaf)
  op : OpF := noOp

inductive GG where
  | yes
  | no
  | unk (t : BT) (d : Tmp)
  | bad
def guardOf (ops : Array Oper) (o : Oper) (t : Tr AVal) : GG :=
  match o.guard with
  | none => .yes
  | some (j, want) => match (ops.toList[j]?).bind (·.dst) with
    | some d => match t.get d with
      | some (.bool (.lit b)) => cond (b == want) .yes .no
      | some (.bool u) => .unk u d
      | some (.tuple []) => .no
      | _ => .bad
    | none => .bad

def appendO {α : Type} : Option (List α) → Option (List α) → Option (List α)
  | some a, some b => some (a ++ b)
  | _, _ => none

def totI : IT → Bool
  | .lit _ | .var _ | .slen _ | .scode _ => true
  | .cv _ a | .sel _ _ _ a => totI a
  | .mx a b | .mn a b | .elem a _ _ b | .fn _ a b | .un _ a b => totI a && totI b
  | .bin .add _ a b | .bin .sub _ a b | .bin .mul _ a b => totI a && totI b
  | .bin .quo _ a (.lit (.ofNat (_ + 1))) | .bin .rem _ a (.lit (.ofNat (_ + 1))) => totI a
  | _ => false
def tot : BT → Bool
  | .cmp .leq a b | .cmp .lss a b | .cmp .geq a b | .cmp .gtr a b | .cmp .neq a b | .cmp .eql a b => totI a && totI b
  | _ => false
def sure : BT → Bool
  | .cmp .leq (.slen s) (.lit n) => match szB s with
    | some m => !iLt n (.ofNat m)
    | none => false
  | _ => false

-- WHAT IS KNOWN ALREADY
def lookB (cs : Cs) (t : BT) : Option Bool :=
  match cs with
  | [] => none
  | (u, b) :: r => cond (BT.beq u t) (some b) (lookB r t)
def normB (cs : Cs) : BT → BT
  | .lit b => .lit b
  | .and a b => match lookB cs (.and a b) with
    | some c => .lit c
    | none => mkAnd (normB cs a) (normB cs b)
  | .not a => match lookB cs (.not a) with
    | some c => .lit c
    | none => mkNot (normB cs a)
  | t => match lookB cs t with
    | some b => .lit b
    | none => t
def lookI (cs : Cs) (t : IT) : Option Nat :=
  match cs with
  | [] => none
  | (.cmp .eql u (.lit (.ofNat n)), true) :: r => cond (IT.beq u t) (some n) (lookI r t)
  | _ :: r => lookI r t
def normV (cs : Cs) (v : AVal) : AVal :=
  match v with
  | .bool t => .bool (normB cs t)
  | .int k (.cv j t) => match lookI cs (.cv j t) with
    | some n => .int k (.lit (.ofNat n))
    | none => .int k (.cv j t)
  | v => v
/-- That holds. -/
def sureC (cs : Cs) (c : BT) : Bool := sure c || (match lookB cs c with
  | some b => b
  | none => false)
def setI (S : St) (d : Tmp) (k : IntKind) (t : IT) (j : Nat) : St := { S with tmps := S.tmps.set d (.int k (.lit (.ofNat j))), cs := (.cmp .eql t (.lit (.ofNat j)), true) :: S.cs }
def noneOf (t : IT) (n : Nat) : Cs := (List.range n).map fun j => (.cmp .eql t (.lit (.ofNat j)), false)
/-- An index that isn't a number yet, into so many. -/
def enumOf (o : Op) (t : Tr AVal) : Option (Tmp × IntKind × IT × Nat) :=
  match o with
  | .indexAddr _ x (.tmp d) => match evOf t x, t.get d with
    | _, some (.int _ (.lit _)) => none
    | some (.slice _ _ (.lit (.ofNat n)) _), some (.int k u) => cond (Nat.blt n 65) (some (d, k, u, n)) none
    | _, _ => none
  | _ => none

def outs (S : St) (dst : Option Tmp) : List Leaf → List SO
  | [] => []
  | .ret v H nl cs :: r => .st { S with tmps := putT S.tmps S.nt dst (normV cs v), H := H, nl := nl, cs := cs } :: outs S dst r
  | .stop cs :: r => .stop cs :: outs S dst r
  | .pause T :: r => .stop T.cs :: outs S dst r

/-- Where nothing can be said: that way must be none. -/
def stepOp (P : Program) (E : Exts) (callF : CallF) (o : Oper) (S : St) : Option (List SO) :=
  match callF.op o.op (evOf S.tmps) S.H S.nl S.cs with
  | some ls => some (outs S o.dst ls)
  | none => match aop P E o.op (evOf S.tmps) S.H S.nl with
  | some (.val v H nl mu) => cond (mu.all fun c => sureC S.cs c || tot c)
      (some (.st { S with tmps := putT S.tmps S.nt o.dst (normV S.cs v), H := H, nl := nl, cs := (mu.filter (!sureC S.cs ·)).map (·, true) ++ S.cs } :: (mu.filter (!sureC S.cs ·)).map fun c => .stop ((c, false) :: S.cs))) (some [.stop S.cs])
  | some (.skip H nl) => some [.st { S with tmps := putT S.tmps S.nt o.dst (.tuple []), H := H, nl := nl }]
  | some (.skipM H nl mu) => cond (mu.all fun c => sureC S.cs c || tot c)
      (some (.st { S with tmps := putT S.tmps S.nt o.dst (.tuple []), H := H, nl := nl, cs := (mu.filter (!sureC S.cs ·)).map (·, true) ++ S.cs } :: (mu.filter (!sureC S.cs ·)).map fun c => .stop ((c, false) :: S.cs))) (some [.stop S.cs])
  | some (.call g args) => match callF.fn g args S.H S.nl S.cs with
    | some ls => some (outs S o.dst ls)
    | none => none
  | none => some [.stop S.cs]

inductive RK where
  | load (t : TypeId) (a : AVal)
  | lookup (t : TypeId) (m k : AVal) (ok : Bool)
  | len (t : TypeId) (x : AVal)
def RK.ev (P : Program) (H : Heap) (cs : Cs) : RK → Option AVal
  | .load t a => match aLoad P t a H with
    | some v => some v
    | none => match aLoadE P t a H with
      | some (v, mu) => cond (mu.all (sureC cs)) (some v) none
      | none => none
  | .lookup t m k ok => aLookup P t m k ok H
  | .len t x => aLen P t x H
def rOp (o : Op) (ev : Ev) : Option RK :=
  match o with
  | .load t a => (ev a).map fun x => .load t x
  | .lookup t m k ok => match ev m, ev k with
    | some m, some k => some (.lookup t m k ok)
    | _, _ => none
  | .call { callee := .builtin .len, args, argTypes } => match args.toList, argTypes.toList with
    | [x], [t] => (ev x).map fun v => .len t v
    | _, _ => none
  | _ => none
structure XF where
  W : List Nat
  rk : RK
  v : AVal
def unl (L : Array Bool) (D : List Nat) : Bool := D.all fun d => !L.getD d false
def xOk (P : Program) (X : List XF) (L : Array Bool) (H : Heap) (cs : Cs) : Bool := X.all fun p => cond (unl L p.W) (match p.rk.ev P H cs with
  | some u => AVal.beq u p.v
  | none => false) true
def xFree (X : List XF) (i : Nat) : Bool := X.all fun p => p.W.all fun d => !Nat.beq d i

/-- All that comes after an operation. -/
def depsOf (i : Nat) : Nat → List Oper → List Nat → List Nat
  | _, [], D => D
  | k, o :: r, D => depsOf i (k + 1) r (cond (!Nat.beq k i && o.after.any fun e => Region.binds .any e && (Nat.beq e.on i || D.any (Nat.beq e.on ·))) (k :: D) D)
def depOk (ops : Array Oper) (i : Nat) (D : List Nat) : Bool := D.all fun d => !Nat.beq d i && match ops.toList[d]? with
  | some o => o.after.any fun e => Region.binds .any e && (Nat.beq e.on i || D.any (Nat.beq e.on ·))
  | none => true
def worldly (o : Op) : Bool :=
  match o with
  | .move .. | .assign .. | .pick .. | .nilCheck .. | .binOp .. | .unOp .. | .convert .. | .makeInterface .. | .makeFunc .. | .fieldAddr .. | .field .. | .indexAddr .. | .index .. | .typeAssert .. | .extract .. | .build .. | .slice .. | .load .. | .lookup .. => false
  | .call c => match c.callee with
    | .builtin .len | .builtin .max | .builtin .min => false
    | _ => true
  | _ => true

inductive Pk where
  | split (t : BT) (d : Tmp)
  | take (i : Nat) (t : Tr AVal) (X : List XF)
  | none
def classify (P : Program) (ops : Array Oper) (listed : Array Bool) (S : St) (X : List XF) (i : Nat) : Pk :=
  match ops.toList[i]? with
  | none => .none
  | some o => match guardOf ops o S.tmps with
    | .unk t d => .split t d
    | .bad => .none
    | .no => cond (Region.free .any ops listed i && xFree X i) (.take i (putT S.tmps S.nt o.dst (.tuple [])) X) .none
    | .yes => match aPure P o.op (evOf S.tmps) with
      | some (v, mu) => cond (mu.all (sureC S.cs) && (Region.free .any ops listed i && xFree X i)) (.take i (putT S.tmps S.nt o.dst (normV S.cs v)) X) .none
      | none => match rOp o.op (evOf S.tmps) with
        | some rk => match rk.ev P S.H S.cs with
          | some v =>
            let D := depsOf i 0 ops.toList []
            cond ((Region.free .any ops listed i && xFree X i) && (depOk ops i D && unl listed D)) (.take i (putT S.tmps S.nt o.dst v) (⟨D.filter (fun d => match ops.toList[d]? with
              | some o => worldly o.op
              | none => true), rk, v⟩ :: X)) .none
          | none => .none
        | none => .none
def pick (P : Program) (ops : Array Oper) (listed : Array Bool) (S : St) (X : List XF) : List Nat → Pk
  | [] => .none
  | i :: r => match classify P ops listed S X i with
    | .none => pick P ops listed S X r
    | x => x

def eachO {α β : Type} (f : α → Option (List β)) : List α → Option (List β)
  | [] => some []
  | x :: r => appendO (f x) (eachO f r)

def setB (S : St) (t : BT) (d : Tmp) (b : Bool) : St := { S with tmps := S.tmps.set d (.bool (.lit b)), cs := (t, b) :: S.cs }

def regRun (P : Program) (E : Exts) (callF : CallF) (ops : Array Oper) : Nat → Nat → Array Bool → St → List XF → Option (List SO)
  | 0, _, _, _, _ => none
  | m + 1, n, listed, S, X =>
    match Region.ready .any ops listed with
    | [] => some [.st S]
    | rs => match n with
      | 0 => none
      | n + 1 => match pick P ops listed S X rs with
        | .split t d => appendO (regRun P E callF ops m (n + 1) listed (setB S t d true) X) (regRun P E callF ops m (n + 1) listed (setB S t d false) X)
        | .take i t X' => regRun P E callF ops m n (listed.setIfInBounds i true) { S with tmps := t } X'
        | .none => eachO (fun i => match ops.toList[i]? with
          | none => none
          | some o => match guardOf ops o S.tmps with
            | .yes => match stepOp P E callF o S with
              | some l => eachO (fun x => match x with
                | .st S' => cond (xOk P X (listed.setIfInBounds i true) S'.H S'.cs) (regRun P E callF ops m n (listed.setIfInBounds i true) S' X) (some [.stop S'.cs])
                | .stop cs => some [.stop cs]) l
              | none => none
            | .no => regRun P E callF ops m n (listed.setIfInBounds i true) { S with tmps := putT S.tmps S.nt o.dst (.tuple []) } X
            | _ => some [.stop S.cs]) rs

-- STATES THAT ARE ALIKE BUT FOR THEIR LABELS
def mergeIn (lo : Nat) (S : St) : List SO → Option (List SO)
  | [] => none
  | .st X :: r => match mergeSt lo X S with
    | some Y => some (.st Y :: r)
    | none => (mergeIn lo S r).map (.st X :: ·)
  | .stop cs :: r => (mergeIn lo S r).map (.stop cs :: ·)
def dedupe (lo : Nat) : List SO → List SO → List SO
  | [], acc => acc
  | .stop cs :: r, acc => dedupe lo r (.stop cs :: acc)
  | .st S :: r, acc => match mergeIn lo S acc with
    | some acc' => dedupe lo r acc'
    | none => dedupe lo r (.st S :: acc)
def retLeaf (P : Program) (f : FuncId) (S : St) : Option (List Leaf) :=
  match P.funcs.toList[f]? with
  | some fn => match aResult P fn S.tmps S.H with
    | some v => some [.ret v S.H S.nl S.cs]
    | none => some [.stop S.cs]
  | none => some [.stop S.cs]
def ofL : List AVal → Nat → Tr AVal → Tr AVal
  | [], _, t => t
  | v :: r, i, t => ofL r (i + 1) (t.set i v)
def entry (fn : Func) (c : Code) (args : List AVal) (H : Heap) (nl : Nat) (cs : Cs) : St :=
  { todo := [.code c], tmps := ofL args 0 .leaf, nt := args.length + (fn.ntmps - args.length), H := H, nl := nl, cs := cs }

/-- At which loops one stops. -/
structure PL where
  stops : Code → Bool
  /-- at which operations of a region whose order is told -/
  ops : Op → Bool := fun _ => false
instance : Coe Bool PL := ⟨fun b => { stops := fun _ => b }⟩
/-- The number of the first region in a piece of code. -/
def codeId : Code → Nat
  | .region id _ _ => id
  | .seq a _ => codeId a
  | .block _ b => codeId b
  | .scope b => codeId b
  | .loop b => codeId b
  | .cond _ a _ => codeId a
  | _ => 0
/-- One stops at the loops whose first region is one of these. -/
def PL.only (l : List Nat) : PL := { stops := fun b => l.any fun i => Nat.beq i (codeId b) }
/-- At these loops and at these operations. -/
def PL.at (l : List Nat) (g : Op → Bool) : PL := { stops := fun b => l.any fun i => Nat.beq i (codeId b), ops := g }
def run (P : Program) (E : Exts) (sp : CallF) : Nat → PL → FuncId → St → Option (List Leaf)
  | 0, _, _, _ => none
  | n + 1, pl, f, S =>
    let callF : CallF := ⟨fun g args H nl cs => (match sp.fn g args H nl cs with
      | some ls => some ls
      | none => match P.funcs.toList[g]? with
        | some fn => match fn.body with
          | some c => run P E sp n false g (entry fn c args H nl cs)
          | none => none
        | none => none), sp.op⟩
    match S.todo with
    | [] => retLeaf P f S
    | .code .ret :: _ => retLeaf P f S
    | .code .skip :: k => run P E sp n pl f { S with todo := k }
    | .code (.label _) :: k => run P E sp n pl f { S with todo := k }
    | .code (.seq a b) :: k => run P E sp n pl f { S with todo := .code a :: .code b :: k }
    | .code (.cond c x y) :: k => match evOf S.tmps c with
      | some (.bool (.lit b)) => run P E sp n pl f { S with todo := .code (cond b x y) :: k }
      | some (.bool t) => match lookB S.cs t with
        | some b => run P E sp n pl f { S with todo := .code (cond b x y) :: k }
        | none => appendO (run P E sp n pl f { S with todo := .code x :: k, cs := (t, true) :: S.cs }) (run P E sp n pl f { S with todo := .code y :: k, cs := (t, false) :: S.cs })
      | _ => some [.stop S.cs]
    | .code (.block id b) :: k => run P E sp n pl f { S with todo := .code b :: .inBlock id :: k }
    | .code (.scope b) :: k => run P E sp n pl f { S with todo := .code b :: .inScope b :: k }
    | .code (.loop b) :: k => cond (pl.stops b) (some [.pause S]) (run P E sp n pl f { S with todo := .code b :: .inLoop b :: k })
    | .inLoop b :: k => cond (pl.stops b) (some [.pause S]) (run P E sp n pl f { S with todo := .code b :: .inLoop b :: k })
    | .code (.exit id) :: k => match exitTo id k with
      | some k' => run P E sp n pl f { S with todo := k' }
      | none => none
    | .code (.goto l) :: k => match gotoIn l k with
      | some k' => run P E sp n pl f { S with todo := k' }
      | none => none
    | .inBlock _ :: k => run P E sp n pl f { S with todo := k }
    | .inScope _ :: k => run P E sp n pl f { S with todo := k }
    | .code (.region _ ops false) :: k => run P E sp n pl f { S with todo := .inRegion ops (List.range ops.size) :: k }
    | .code (.region _ ops true) :: k => match regRun P E callF ops n ops.size (Array.replicate ops.size false) S [] with
      | some l => cond (Region.noSelect ops) (eachO (fun x => match x with
        | .st S' => run P E sp n pl f { S' with todo := k }
        | .stop cs => some [.stop cs]) (dedupe S.nl l [])) none
      | none => none
    | .inRegion _ [] :: k => run P E sp n pl f { S with todo := k }
    | .inRegion ops (i :: rest) :: k => match ops.toList[i]? with
      | none => none
      | some o => match guardOf ops o S.tmps with
        | .yes => cond (pl.ops o.op) (some [.pause S]) (match enumOf o.op S.tmps with
          | some (d, k, u, m) => match lookI S.cs u with
            | some j => run P E sp n pl f (setI S d k u j)
            | none => appendO (eachO (fun j => run P E sp n pl f (setI S d k u j)) (List.range m)) (some [.stop (noneOf u m ++ S.cs)])
          | none => match stepOp P E callF o S with
          | some l => eachO (fun x => match x with
            | .st S' => run P E sp n pl f { S' with todo := .inRegion ops rest :: k }
            | .stop cs => some [.stop cs]) l
          | none => none)
        | .no => run P E sp n pl f { S with tmps := putT S.tmps S.nt o.dst (.tuple []), todo := .inRegion ops rest :: k }
        | .unk t d => match lookB S.cs t with
          | some b => run P E sp n pl f (setB S t d b)
          | none => appendO (run P E sp n pl f (setB S t d true)) (run P E sp n pl f (setB S t d false))
        | .bad => some [.stop S.cs]
    | _ => some [.stop S.cs]

end Go.Vm
