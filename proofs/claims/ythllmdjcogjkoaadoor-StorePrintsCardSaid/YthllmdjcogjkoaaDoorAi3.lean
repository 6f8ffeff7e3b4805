/- The abstract machine: regions, code, calls. -/
import Derived.Test.YthllmdjcogjkoaaDoorAi2
namespace Go.Ai

inductive Tg where
  | fn (f : FuncId)
  | yield (l : Nat)
inductive ADef where
  | mark (id : Nat)
  | call (f : FuncId) (args : List AV)
structure St where
  tm : List AV
  df : List ADef
  h : AH
inductive Ex where
  | normal
  | exit (id : Nat)
  | ret

abbrev Inv := Tg → List AV → AH → Option (AV × AH)
abbrev Sig := FuncId → Option (List AV → AH → Option (AV × AH))

def putA (tm : List AV) (dst : Option Tmp) (v : AV) : List AV :=
  match dst with
  | some d => tm.set d v
  | none => tm

/-- Is an operation wanted? none: it can't be told. -/
def wantedA (ops : Array Oper) (o : Oper) (tm : List AV) : Option Bool :=
  match o.guard with
  | none => some true
  | some (j, want) =>
    match ops[j]? with
    | some g => match g.dst with
      | some d => match tm[d]? with
        | some (.bool b) => some (b == want)
        | some (.tuple _) => some false
        | _ => none
      | none => some false
    | none => some false

def callA (inv : Inv) (f : AV) (args : List AV) (h : AH) : Option (AV × AH) :=
  match f with
  | .func g xs ys => inv (.fn g) (xs ++ args ++ ys) h
  | .yieldf l => inv (.yield l) args h
  | _ => none

section
variable (P : Program)

def execA (inv : Inv) (tm : List AV) (op : Op) (h : AH) : Option (AV × AH) :=
  match op with
  | .call { callee := .value f, args, argTypes := _ } => match evalA tm f, mapOpt (evalA tm) args.toList with
    | some f, some vs => callA inv f vs h
    | _, _ => none
  | op => opA P (evalA tm) op h

def stepA (rnd : Option Nat) (inv : Inv) (ops : Array Oper) (o : Oper) (s : St) : Option St :=
  match wantedA ops o s.tm with
  | none => none
  | some false => some { s with tm := putA s.tm o.dst undefA }
  | some true =>
    match o.op with
    | .defer { callee := .value f, args, argTypes := _ } => bif rnd.isSome then none else
      match evalA s.tm f, mapOpt (evalA s.tm) args.toList with
      | some (.func g xs ys), some vs => some { tm := putA s.tm o.dst undefA, df := .call g (xs ++ vs ++ ys) :: s.df, h := s.h }
      | _, _ => none
    | op => match execA P inv s.tm op s.h with
      | some (v, h) => some { s with tm := putA s.tm o.dst v, h := h }
      | none => none

def opsA (rnd : Option Nat) (inv : Inv) (ops : Array Oper) : List Oper → St → Option St
  | [], s => some s
  | o :: os, s => match stepA P rnd inv ops o s with
    | some s => opsA rnd inv ops os s
    | none => none

/-- What an operation reads that writes nothing. none: it may do more. -/
def readsA (ρ : Operand → Option AV) : Op → Option (List Nat)
  | .load _ a => match ρ a with
    | some (.ptr id _) => some [id]
    | some (.ipt _ _) => some []
    | _ => none
  | .lookup _ m _ _ => match ρ m with
    | some (.map id) => some [id]
    | some .nilmap => some []
    | _ => none
  | .call { callee := .builtin .len, args, argTypes := _ } => match mapOpt ρ args.toList with
    | some [.map id] => some [id]
    | some [_] => some []
    | _ => none
  | .call { callee := .builtin .cap, args := _, argTypes := _ } => some []
  | .call { callee := .builtin .max, args := _, argTypes := _ } => some []
  | .call { callee := .builtin .min, args := _, argTypes := _ } => some []
  | .alloc _ => some []
  | .box _ _ => some []
  | .buildSlice _ _ _ => some []
  | .makeSlice _ _ _ => some []
  | .makeMap _ _ => some []
  | _ => none
/-- What is told of an operation: the heap's size ahead of it and behind it, what it reads. -/
structure Info where
  n0 : Nat
  n1 : Nat
  rd : Option (List Nat)
/-- In a region that draws: the heap's size behind each operation, and what a load reads; which operations have written what was there before them, and what. -/
def opsD (inv : Inv) (ops : Array Oper) : Nat → List Oper → St → Option (List Info × List (Nat × List Nat) × St)
  | _, [], s => some ([], [], s)
  | i, o :: os, s => match stepA P (some 0) inv ops o { s with h := { s.h with pb := s.h.n, ws := [] } } with
    | some s' => match opsD inv ops (i + 1) os { s' with h := { s'.h with pb := s.h.pb, ws := s'.h.ws.filter (fun id => decide (id < s.h.pb)) ++ s.h.ws } } with
      | some (ns, ds, s'') => some (⟨s.h.n, s'.h.n, readsA (evalA s.tm) o.op⟩ :: ns, match s'.h.ws with | [] => ds | ws => (i, ws) :: ds, s'')
      | none => none
    | none => none

/-- It touches no memory. -/
def pureOp : Op → Bool
  | .move _ | .assign _ | .pick _ _ _ | .build _ _ | .nilCheck _ | .binOp _ _ _ _ _ | .unOp _ _ _ | .convert _ _ _ | .makeInterface _ _
  | .makeFunc _ _ _ | .slice _ _ _ _ _ | .fieldAddr _ _ _ | .field _ _ _ | .indexAddr _ _ _ | .index _ _ _ | .extract _ _ => true
  | _ => false
def ordered (b : Array Nat) (i j : Nat) : Bool := bif decide (i < j) then (b.getD j 0).testBit i else (b.getD i 0).testBit j
/-- Two operations of which the one writes, and that come in no order: may they? -/
def besideOk (j d : Nat) (ws : List Nat) : Option Info → Bool
  | some ⟨n0, n1, some l⟩ => ws.all fun w => !(l.contains w) && (decide (w < n0) || decide (n1 ≤ w))
  | some ⟨_, n1, none⟩ => decide (j < d) && ws.all fun w => decide (n1 ≤ w)
  | none => false
def dirtyOk (ops : Array Oper) (b : Array Nat) (ns : List Info) : List (Nat × List Nat) → Bool
  | [] => true
  | (d, ws) :: ds => ((List.range ops.size).all fun j => j == d || ordered b d j || (match ops[j]? with | some o => pureOp o.op | none => true) || besideOk j d ws ns[j]?) && dirtyOk ops b ns ds

def regionD (inv : Inv) (ops : Array Oper) (s : St) : Option St :=
  match opsD P inv ops 0 ops.toList s with
  | some (_, [], s) => some s
  | some (ns, ds, s) => bif dirtyOk ops (Region.before ops) ns ds then some s else none
  | none => none

def loopA : Nat → (St → Option (Ex × St)) → St → Option (Ex × St)
  | 0, _, _ => none
  | k + 1, f, s => match f s with
    | some (.normal, s) => loopA k f s
    | r => r

/-- The deferred calls and the heap ahead of a range over a function: at an outermost one a block is laid. -/
def headA (rnd : Option Nat) (s : St) : Option (List ADef × AH) :=
  match rnd with
  | none => some (.mark s.h.n :: s.df, s.h.push .dfr)
  | some l => match s.h.get l with
    | some (.loop _ _ _ _ _ _) => some (s.df, s.h)
    | _ => none
def isBusy : LoopState → Bool
  | .busy => true
  | _ => false
def tailA (pend : Option Code) (s : St) : Option (Ex × St) :=
  match pend with
  | none => some (.normal, s)
  | some .ret => some (.ret, s)
  | some (.exit id) => some (.exit id, s)
  | some _ => none
def rangeA (rnd : Option Nat) (inv : Inv) (f : Operand) (params : List Tmp) (assign body : Code) (s : St) : Option (Ex × St) :=
  match evalA s.tm f with
  | some (.func g xs ys) =>
    match headA rnd s with
    | some (df, h0) =>
      match inv (.fn g) (xs ++ [.yieldf h0.n] ++ ys) (h0.push (.loop .ready none s.tm params assign body)) with
      | some (_, h) => match h.get h0.n with
        | some (.loop st pend tm ps a b) =>
          bif isBusy st then none else tailA pend { tm := s.tm, df := df, h := h.set h0.n (.loop .exhausted pend tm ps a b) }
        | _ => none
      | none => none
    | none => none
  | _ => none

def codeA (rnd : Option Nat) (inv : Inv) (k : Nat) : Code → St → Option (Ex × St)
  | .skip, s => some (.normal, s)
  | .label _, s => some (.normal, s)
  | .region _ ops draw, s => match (bif draw then regionD P inv ops s else opsA P rnd inv ops ops.toList s) with
    | some s => some (.normal, s)
    | none => none
  | .seq a b, s => match codeA rnd inv k a s with
    | some (.normal, s) => codeA rnd inv k b s
    | r => r
  | .cond c a b, s => match evalA s.tm c with
    | some (.bool true) => codeA rnd inv k a s
    | some (.bool false) => codeA rnd inv k b s
    | _ => none
  | .block id c, s => match codeA rnd inv k c s with
    | some (.exit i, s) => bif i == id then some (.normal, s) else some (.exit i, s)
    | r => r
  | .loop c, s => loopA k (fun s => codeA rnd inv k c s) s
  | .rangeFunc f params assign body, s => rangeA rnd inv f params.toList assign body s
  | .exit id, s => some (.exit id, s)
  | .ret, s => some (.ret, s)
  | _, _ => none

/-- A body's end. -/
def bodyA (inv : Inv) (k : Nat) (fn : Func) (args : List AV) (h : AH) : Option St :=
  match fn.body with
  | some c => match codeA P none inv k c { tm := args ++ List.replicate (fn.ntmps - args.length) undefA, df := [], h := h } with
    | some (.normal, s) => some s
    | some (.ret, s) => some s
    | _ => none
  | none => none
def resultA (h : AH) (tm : List AV) : ResultVar → Option AV
  | .tmp t => some (tm.getD t undefA)
  | .cell a t => loadA P h t (tm.getD a undefA)
def resultsA (fn : Func) (s : St) : Option AV :=
  match mapOpt (resultA P s.h s.tm) fn.results.toList with
  | some [v] => some v
  | some vs => some (.tuple vs)
  | none => none
/-- A deferred call: of a function that defers nothing itself. -/
def deferredA (inv : Inv) (k : Nat) (f : FuncId) (args : List AV) (h : AH) : Option AH :=
  match P.funcs[f]? with
  | some fn => match bodyA P inv k fn args h with
    | some s => match s.df, resultsA P fn s with
      | [], some _ => some s.h
      | _, _ => none
    | none => none
  | none => none
def leaveA (inv : Inv) (k : Nat) : List ADef → AH → Option AH
  | [], h => some h
  | .mark id :: ds, h => match h.get id with
    | some .dfr => leaveA inv k ds (h.set id .gone)
    | _ => none
  | .call f args :: ds, h => match deferredA P inv k f args h with
    | some h => leaveA inv k ds h
    | none => none
def callFnA (inv : Inv) (k : Nat) (f : FuncId) (args : List AV) (h : AH) : Option (AV × AH) :=
  match P.funcs[f]? with
  | some fn => match bodyA P inv k fn args h with
    | some s => match leaveA P inv k s.df s.h with
      | some h => match resultsA P fn { s with h := h } with
        | some v => some (v, h)
        | none => none
      | none => none
    | none => none
  | none => none
def setAll : List AV → List Tmp → List AV → List AV
  | tm, t :: ts, v :: vs => setAll (tm.set t v) ts vs
  | tm, _, _ => tm
/-- What is looked at in a region that draws, once for all. -/
def regOk (ops : Array Oper) : Bool :=
  let b := Region.before ops
  (List.range ops.size).all fun j =>
    match ops[j]? with
    | some o =>
      (o.after.toList.all fun e => !Region.binds .any e || decide (e.on < j)) &&
      (match o.op with | .defer _ => false | _ => true) &&
      (List.range j).all fun i => (b.getD j 0).testBit i || (match ops[i]? with | some p => Oper.apart ops p o | none => false)
    | none => false
def codeOk : Code → Bool
  | .region _ ops draw => !draw || regOk ops
  | .seq a b => codeOk a && codeOk b
  | .cond _ a b => codeOk a && codeOk b
  | .block _ c => codeOk c
  | .loop c => codeOk c
  | .rangeFunc _ _ a b => codeOk a && codeOk b
  | .scope c => codeOk c
  | _ => true
def roundA (inv : Inv) (k : Nat) (l : Nat) (args : List AV) (h : AH) : Option (AV × AH) :=
  match h.get l with
  | some (.loop _ _ tm ps assign body) =>
    bif codeOk assign && codeOk body && args.length == ps.length then
      match codeA P (some l) inv k assign { tm := setAll tm ps args, df := [], h := h } with
      | some (.normal, s) => match s.h.get l with
        | some (.loop .ready pend tm ps a b) =>
          match codeA P (some l) inv k body { s with h := s.h.set l (.loop .busy pend tm ps a b) } with
          | some (e, s) => match s.df, s.h.get l with
            | [], some (.loop _ _ tm ps a b) =>
              match e with
              | .normal => some (.bool true, s.h.set l (.loop .ready none tm ps a b))
              | .ret => some (.bool false, s.h.set l (.loop .done (some .ret) tm ps a b))
              | .exit id => some (.bool false, s.h.set l (.loop .done (some (.exit id)) tm ps a b))
            | _, _ => none
          | none => none
        | _ => none
      | _ => none
    else none
  | _ => none

variable (sig : Sig)
def runA : Nat → Inv
  | 0 => fun _ _ _ => none
  | k + 1 => fun t args h =>
    let inv : Inv := fun t args h => match t with
      | .fn f => match sig f with
        | some g => g args h
        | none => runA k (.fn f) args h
      | .yield l => runA k (.yield l) args h
    match t with
    | .fn f => callFnA P inv k f args h
    | .yield l => roundA P inv k l args h

def progOk : Bool := P.follows .mixedOrders && P.funcs.toList.all fun fn => match fn.body with
  | some c => codeOk c && fn.name != "runtime.NumGoroutine"
  | none => true
end
end Go.Ai
