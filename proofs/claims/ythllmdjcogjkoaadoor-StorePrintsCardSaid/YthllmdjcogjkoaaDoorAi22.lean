/- A function's contract from its walk; lemmas for walks. -/
import Derived.Test.YthllmdjcogjkoaaDoorAi21
namespace Go.Ai
set_option linter.unusedSimpArgs false
set_option linter.unusedVariables false

section
variable {P : Program} {h h' h'' : AH}
def resultE (P : Program) (h : AH) (ρ : Env) : ResultVar → Option AV
  | .tmp t => some (ρ t)
  | .cell a t => loadA P h t (ρ a)
def oneOr : List AV → AV
  | [v] => v
  | vs => .tuple vs
def resultsE (P : Program) (fn : Func) (ρ : Env) (h : AH) : Option AV := (mapOpt (resultE P h ρ) fn.results.toList).map oneOr
theorem resultsE_eq {fn : Func} {s : St} : resultsE P fn (envOf s.tm) s.h = resultsA P fn s := by
  unfold resultsE resultsA
  have : resultE P s.h (envOf s.tm) = resultA P s.h s.tm := by funext r; cases r <;> rfl
  rw [this]
  cases mapOpt (resultA P s.h s.tm) fn.results.toList with
  | none => rfl
  | some vs => cases vs with
    | nil => rfl
    | cons v vs => cases vs <;> rfl


/-- The deferred calls. -/
def leaveE (P : Program) (k : Nat) : List ADef → AH → (AH → Prop) → Prop
  | [], h, K => K h
  | .mark id :: ds, h, K => h.get id = some .dfr ∧ leaveE P k ds (h.set id .gone) K
  | .call f args :: ds, h, K => ∃ fn c, P.funcs[f]? = some fn ∧ fn.body = some c ∧ tmOk fn.ntmps c = true ∧ args.length ≤ fn.ntmps ∧
      wpE P none k c (fun e ρ df h1 => (∀ i, e ≠ .exit i) ∧ df = [] ∧ (resultsE P fn ρ h1).isSome = true ∧ leaveE P k ds h1 K) (fun t => args.getD t undefA) [] h
/-- The end of a walk. -/
def finE (P : Program) (k : Nat) (fn : Func) (Q : AV → AH → Prop) : Pst := fun e ρ df h => match e with
  | .exit _ => False
  | _ => leaveE P k df h fun h2 => ∃ v, resultsE P fn ρ h2 = some v ∧ Q v h2
theorem fin_ret {k : Nat} {fn : Func} {Q : AV → AH → Prop} {ρ : Env} {v : AV} (e : resultsE P fn ρ h = some v) (q : Q v h) : finE P k fn Q .ret ρ [] h := ⟨v, e, q⟩
theorem fin_normal {k : Nat} {fn : Func} {Q : AV → AH → Prop} {ρ : Env} {v : AV} (e : resultsE P fn ρ h = some v) (q : Q v h) : finE P k fn Q .normal ρ [] h := ⟨v, e, q⟩
def startE (args : List AV) : Env := fun t => args.getD t undefA
theorem startE_eq (args : List AV) (n : Nat) : envOf (args ++ List.replicate n undefA) = startE args := by
  funext t
  simp only [envOf, startE, List.getD_eq_getElem?_getD, List.getElem?_append, List.getElem?_replicate]
  split
  · rfl
  · rename_i hh
    rw [List.getElem?_eq_none (by omega)]
    split <;> rfl

theorem body_walk {k : Nat} {fn : Func} {c : Code} {args : List AV} {Q : Ex → Env → List ADef → AH → Prop} (hb : fn.body = some c) (ht : tmOk fn.ntmps c = true) (hl : args.length ≤ fn.ntmps) (wf : h.WF)
    (hw : wpE P none k c Q (startE args) [] h) (hq : ∀ i ρ df h, ¬ Q (.exit i) ρ df h) :
    ∃ T e tm df h1, (∀ T', bodyA P (invTp P) k fn args (h.tape (T ++ T')) = some ⟨tm, df, h1.tape T'⟩) ∧ h1.WF ∧ Q e (envOf tm) df h1 := by
  rw [← startE_eq args (fn.ntmps - args.length)] at hw
  obtain ⟨T, e, tm', df', h1, e1, e2, wf1, e3⟩ := wpE_ok c ht _ _ _ _ (by simp; omega) wf hw
  refine ⟨T, e, tm', df', h1, fun T' => ?_, wf1, e3⟩
  unfold bodyA
  rw [hb]
  dsimp only
  rw [e1]
  cases e with
  | exit i => exact absurd e3 (hq _ _ _ _)
  | normal => rfl
  | ret => rfl
theorem leave_okE {k : Nat} : ∀ (df : List ADef) (h : AH) (K : AH → Prop), h.WF → leaveE P k df h K → ∃ T h2, (∀ T', leaveA P (invTp P) k df (h.tape (T ++ T')) = some (h2.tape T')) ∧ h2.WF ∧ K h2
  | [], h, K, wf, e => ⟨[], h, fun T' => rfl, wf, e⟩
  | .mark id :: ds, h, K, wf, e => by
    obtain ⟨e1, e2⟩ := e
    obtain ⟨T, h2, a, b, c⟩ := leave_okE ds (h.set id .gone) K (wf.set (wf.lt e1) _) e2
    refine ⟨T, h2, fun T' => ?_, b, c⟩
    unfold leaveA
    rw [get_tape, e1]
    exact a T'
  | .call f args :: ds, h, K, wf, e => by
    obtain ⟨fn, c, h1, h2, h3, h4, h5⟩ := e
    obtain ⟨T1, e, tm, df, h6, b1, wf6, b2, b3, b4, b5⟩ := body_walk h2 h3 h4 wf h5 (fun i _ _ _ hh => hh.1 i rfl)
    subst b3
    obtain ⟨T2, h7, c1, c2, c3⟩ := leave_okE ds h6 K wf6 b5
    refine ⟨T1 ++ T2, h7, fun T' => ?_, c2, c3⟩
    obtain ⟨v, hv⟩ := Option.isSome_iff_exists.1 b4
    have hv' : resultsA P fn ⟨tm, [], h6.tape (T2 ++ T')⟩ = some v := by
      rw [← resultsE_eq]; exact hv
    unfold leaveA deferredA
    rw [h1]
    dsimp only
    rw [List.append_assoc, b1]
    dsimp only
    rw [hv']
    exact c1 T'
theorem callFn_walk {k : Nat} {f : FuncId} {fn : Func} {c : Code} {args : List AV} {Q : AV → AH → Prop} (hf : P.funcs[f]? = some fn) (hb : fn.body = some c) (ht : tmOk fn.ntmps c = true) (hl : args.length ≤ fn.ntmps) (wf : h.WF)
    (hw : wpE P none k c (finE P k fn Q) (startE args) [] h) : ∃ T v h', callFnA P (invTp P) k f args (h.tape T) = some (v, h'.tape []) ∧ Q v h' := by
  obtain ⟨T1, e, tm', df', h1, e1, wf1, e3⟩ := body_walk hb ht hl wf hw (fun i _ _ _ hh => hh)
  have key : leaveE P k df' h1 fun h2 => ∃ v, resultsE P fn (envOf tm') h2 = some v ∧ Q v h2 := by
    cases e with
    | exit _ => exact e3.elim
    | normal => exact e3
    | ret => exact e3
  obtain ⟨T2, h2, a, wf2, v, hv, hq⟩ := leave_okE df' h1 _ wf1 key
  refine ⟨T1 ++ T2, v, h2, ?_, hq⟩
  have h7 : resultsA P fn ⟨tm', df', h2.tape []⟩ = some v := by rw [← resultsE_eq]; exact hv
  have e1' := e1 T2
  have a' := a []
  rw [List.append_nil] at a'
  unfold callFnA
  rw [hf]
  dsimp only
  rw [e1']
  dsimp only
  rw [a']
  dsimp only at h7 ⊢
  rw [h7]

/-- A call's contract, with what is told of its answer. -/
def Has (P : Program) (f : FuncId) (args : List AV) (h : AH) (Q : AV → AH → Prop) : Prop := ∃ r, Calling P (.fn f) args h r ∧ Q r.1 r.2
theorem has_walk {k : Nat} {f : FuncId} {fn : Func} {c : Code} {args : List AV} {Q : AV → AH → Prop} (hp : progOk P = true) (hf : P.funcs[f]? = some fn) (hb : fn.body = some c) (ht : tmOk fn.ntmps c = true) (hl : args.length ≤ fn.ntmps)
    (wf : h.WF) (hw : wpE P none k c (finE P k fn Q) (startE args) [] h) : Has P f args h Q := by
  obtain ⟨T, v, h', h1, h2⟩ := callFn_walk hf hb ht hl wf hw
  have C := callFn_ok (invTp_ok P) hp h1 (show (h.tape T).WF from wf)
  exact ⟨(v, h'), C.untape, h2⟩
theorem Has.mono {f : FuncId} {args : List AV} {Q Q' : AV → AH → Prop} (hh : Has P f args h Q) (q : ∀ v h', h'.WF → Ext h h' → Q v h' → Q' v h') : Has P f args h Q' :=
  let ⟨r, a, b⟩ := hh
  ⟨r, a, q _ _ a.wf a.ext b⟩
/-- What a call comes to. -/
theorem call_has {g : FuncId} {xs ys vs : List AV} {K : AV → AH → Prop} {Q : AV → AH → Prop} (C : h.WF → Has P g (xs ++ vs ++ ys) h Q) (k : ∀ v h', Q v h' → K v h') : onCall P (.func g xs ys) vs h K :=
  fun wf => let ⟨r, a, b⟩ := C wf; ⟨r, a, k _ _ b⟩
theorem call_is {g : FuncId} {xs ys vs : List AV} {K : AV → AH → Prop} {v : AV} (C : h.WF → Calling P (.fn g) (xs ++ vs ++ ys) h (v, h')) (k : K v h') : onCall P (.func g xs ys) vs h K :=
  fun wf => ⟨_, C wf, k⟩
end
section
variable {P : Program} {rnd : Option Nat} {k : Nat} {ρ : Env} {df : List ADef} {h : AH} {Q : Pst} {K : Kon} {ops : Array Oper}

theorem wpE_seq {a b : Code} (H : ∀ K : Kon, (∀ ρ df h, wpE P rnd k b Q ρ df h → K ρ df h) → wpE P rnd k a (thenE K Q) ρ df h) : wpE P rnd k (.seq a b) Q ρ df h := H _ fun _ _ _ h => h
theorem wpE_region {id : Nat} (H : wpOs P rnd ops ops.toList (Q .normal) ρ df h) : wpE P rnd k (.region id ops false) Q ρ df h := H
theorem wpE_draw {id : Nat} (dd : List Nat) (ht : toldOk ops dd = true) (H : wpQs P ops dd 0 ops.toList (Q .normal) ρ df h) : wpE P rnd k (.region id ops true) Q ρ df h := ⟨dd, ht, H⟩
theorem wpE_ret (H : Q .ret ρ df h) : wpE P rnd k .ret Q ρ df h := H
theorem wpE_exit {id : Nat} (H : Q (.exit id) ρ df h) : wpE P rnd k (.exit id) Q ρ df h := H
theorem wpE_skip (H : Q .normal ρ df h) : wpE P rnd k .skip Q ρ df h := H
theorem wpE_block {id : Nat} {c : Code} (H : wpE P rnd k c (inE id Q) ρ df h) : wpE P rnd k (.block id c) Q ρ df h := H
theorem wpE_cond {c : Operand} {a b : Code} {t : Bool} (hc : evalE ρ c = some (.bool t)) (ha : t = true → wpE P rnd k a Q ρ df h) (hb : t = false → wpE P rnd k b Q ρ df h) : wpE P rnd k (.cond c a b) Q ρ df h := by
  show onCond (evalE ρ c) _ _
  rw [hc]; exact ⟨ha, hb⟩

/-- A loop, by an invariant I that counts down to 0. -/
theorem wpE_loop {c : Code} (I : Nat → Kon) (m : Nat) (hm : m < k) (h0 : I m ρ df h)
    (step : ∀ m, (∀ K : Kon, (∀ m' ρ df h, m' < m → I m' ρ df h → K ρ df h) → ∀ ρ df h, I m ρ df h → wpE P rnd k c (thenE K Q) ρ df h)) : wpE P rnd k (.loop c) Q ρ df h := by
  show loopW k (wpE P rnd k c) Q ρ df h
  have key : ∀ (j m : Nat) (ρ : Env) (df : List ADef) (h : AH), m < j → I m ρ df h → loopW j (wpE P rnd k c) Q ρ df h := by
    intro j
    induction j with
    | zero => intro m ρ df h hm _; omega
    | succ j ih =>
      intro m ρ df h hm hI
      exact step m (loopW j (wpE P rnd k c) Q) (fun m' ρ df h hlt hI => ih m' ρ df h (by omega) hI) ρ df h hI
  exact key k m ρ df h hm h0

/-- What an operation of a region that draws comes to. -/
def qK (i : Nat) (dd : List Nat) (K : AV → AH → Prop) : AV → AH → Prop := fun v h1 => (h1.ws = [] ∨ i ∈ dd) ∧ K v h1
theorem qK_bare {v : AV} {i : Nat} {dd : List Nat} {K : AV → AH → Prop} : qK i dd K v (bare h) = K v (bare h) := by simp [qK, bare]
theorem qK_push {v : AV} {o : AO} {i : Nat} {dd : List Nat} {K : AV → AH → Prop} : qK i dd K v ((bare h).push o) = K v ((bare h).push o) := by simp [qK, bare, AH.push]
theorem qK_ws {v : AV} {h1 : AH} {i : Nat} {dd : List Nat} {K : AV → AH → Prop} (e : h1.ws = []) : qK i dd K v h1 = K v h1 := by simp [qK, e]
theorem qK_told {v : AV} {h1 : AH} {i : Nat} {dd : List Nat} {K : AV → AH → Prop} (e : i ∈ dd) : qK i dd K v h1 = K v h1 := by simp [qK, e]
theorem wpO_no {d : Option Tmp} {op : Op} {ty : TypeId} {pos : String} {aft : Array Edge} : wpO P rnd ops { dst := d, op := op, type := ty, pos := pos, after := aft, guard := none } K ρ df h =
    match isDefer op with
      | some c => deferE rnd ρ c df fun df => K (updO ρ d undefA) df h
      | none => onOp P (evalE ρ) op h fun v h => K (updO ρ d v) df h := by
  simp [wpO, wantedE, onWant, branch]; rfl
theorem wpO_gd {d : Option Tmp} {op : Op} {ty : TypeId} {pos : String} {aft : Array Edge} {j : Nat} {want : Bool} : wpO P rnd ops { dst := d, op := op, type := ty, pos := pos, after := aft, guard := some (j, want) } K ρ df h =
    onWant (match (ops[j]?).bind (fun g => g.dst) with
      | some d => wantE (ρ d) want
      | none => some false)
    (match isDefer op with
      | some c => deferE rnd ρ c df fun df => K (updO ρ d undefA) df h
      | none => onOp P (evalE ρ) op h fun v h => K (updO ρ d v) df h)
    (K (updO ρ d undefA) df h) := by
  unfold wpO wantedE
  dsimp only
  cases ops[j]? with
  | none => rfl
  | some g => cases hg : g.dst <;> (simp [hg]; rfl)
theorem wpQ_no {dd : List Nat} {i : Nat} {d : Option Tmp} {op : Op} {ty : TypeId} {pos : String} {aft : Array Edge} : wpQ P ops dd i { dst := d, op := op, type := ty, pos := pos, after := aft, guard := none } K ρ df h =
    (isDefer op = none ∧ onOp P (evalE ρ) op (bare h) (qK i dd fun v h1 => K (updO ρ d v) df (re h1 h))) := by
  simp [wpQ, wantedE, onWant, branch]; exact fun _ => Iff.rfl
theorem wpQ_gd {dd : List Nat} {i : Nat} {d : Option Tmp} {op : Op} {ty : TypeId} {pos : String} {aft : Array Edge} {j : Nat} {want : Bool} : wpQ P ops dd i { dst := d, op := op, type := ty, pos := pos, after := aft, guard := some (j, want) } K ρ df h =
    onWant (match (ops[j]?).bind (fun g => g.dst) with
      | some d => wantE (ρ d) want
      | none => some false)
    (isDefer op = none ∧ onOp P (evalE ρ) op (bare h) (qK i dd fun v h1 => K (updO ρ d v) df (re h1 h)))
    (K (updO ρ d undefA) df h) := by
  unfold wpQ wantedE
  dsimp only
  cases ops[j]? with
  | none => rfl
  | some g => cases hg : g.dst <;> (simp [hg]; try rfl)
theorem wantE_bool {b w : Bool} : wantE (.bool b) w = some (b == w) := rfl
theorem wantE_undef {w : Bool} : wantE undefA w = some false := rfl
theorem onWant_some {t : Bool} {A B : Prop} : onWant (some t) A B = branch t A B := rfl
theorem branch_true {A B : Prop} : branch true A B = A := by simp [branch]
theorem branch_false {A B : Prop} : branch false A B = B := by simp [branch]
theorem branch_eqT {b : Bool} {A B : Prop} : branch (b == true) A B = ((b = true → A) ∧ (b = false → B)) := by cases b <;> simp [branch]
theorem branch_eqF {b : Bool} {A B : Prop} : branch (b == false) A B = ((b = false → A) ∧ (b = true → B)) := by cases b <;> simp [branch]
theorem onVal_some {v : AV} {K : AV → AH → Prop} : onVal (some (v, h)) K = K v h := by
  apply propext; rw [onVal_iff]
  exact ⟨fun ⟨v', h', e, k⟩ => by injection e with e; injection e with e1 e2; subst e1 e2; exact k, fun k => ⟨v, h, rfl, k⟩⟩
theorem updO_some {d : Tmp} {v : AV} : updO ρ (some d) v = upd ρ d v := rfl
theorem updO_none {v : AV} : updO ρ none v = ρ := rfl
theorem upd_get {d t : Tmp} {v : AV} : upd ρ d v t = if t = d then v else ρ t := rfl
theorem thenE_normal : thenE K Q .normal = K := rfl
theorem thenE_ret : thenE K Q .ret = Q .ret := rfl
theorem thenE_exit {i : Nat} : thenE K Q (.exit i) = Q (.exit i) := rfl
theorem inE_normal {id : Nat} : inE id Q .normal = Q .normal := rfl
theorem inE_ret {id : Nat} : inE id Q .ret = Q .ret := rfl
theorem inE_exit {id i : Nat} : inE id Q (.exit i) = if i = id then Q .normal else Q (.exit i) := by
  funext ρ df h; simp only [inE]; split <;> rfl
theorem startE_get {args : List AV} {t : Nat} : startE args t = args.getD t undefA := rfl

/-! ### Operations -/
@[congr] theorem onCall_congr {fv fv' : AV} {vs vs' : List AV} {K : AV → AH → Prop} (e : fv = fv') (e' : vs = vs') : onCall P fv vs h K = onCall P fv' vs' h K := by rw [e, e']
@[congr] theorem onOp_congr {ρA : Operand → Option AV} {op : Op} {K : AV → AH → Prop} : onOp P ρA op h K = onOp P ρA op h K := rfl
theorem loadA_one {t : TypeId} {id off : Nat} {cs : List AV} {ro : Bool} (ha : aggT P t = some false) (hg : h.get id = some (.cells cs ro)) : loadA P h t (.ptr id off) = cs[off]? := by
  simp [loadA, cellsAt, hg, ha]
theorem loadA_agg {t : TypeId} {id off n : Nat} {cs : List AV} {ro : Bool} (ha : aggT P t = some true) (hz : szOf P t = some n) (hg : h.get id = some (.cells cs ro)) (hb : off + n ≤ cs.length) : loadA P h t (.ptr id off) = some (.agg ((cs.drop off).take n)) := by
  simp [loadA, cellsAt, hg, ha, hz, cut, hb]
theorem bi_len {t : TypeId} {x : AV} {n : Nat} (e : lenA P h t x = some n) : builtinA P h .len [t] [x] = some (.int .i64 n, h) := by simp [builtinA, e]
theorem binA_int {op : BinOp} {t : TypeId} {kk : IntKind} {a b : Int} (h1 : op ≠ .shl) (h2 : op ≠ .shr) : binA P op t (.int kk a) (.int kk b) = intBinA op kk a b := by
  cases op <;> simp_all [binA]
theorem guardA_int {op : BinOp} {t : TypeId} {x y : Operand} {kk kk' : IntKind} {a b : Int} : guardA P op t x y (.int kk a) (.int kk' b) = true := by cases op <;> rfl
theorem guardA_bool {op : BinOp} {t : TypeId} {x y : Operand} {a b : Bool} : guardA P op t x y (.bool a) (.bool b) = true := by cases op <;> rfl
theorem guardA_str {op : BinOp} {t : TypeId} {x y : Operand} {a b : ByteArray} : guardA P op t x y (.str a) (.str b) = true := by cases op <;> rfl
theorem wrap64 {x : Int} (h1 : -9223372036854775808 ≤ x) (h2 : x ≤ 9223372036854775807) : IntKind.i64.wrap x = x := by
  have e : IntKind.i64.wrap x = if x % 18446744073709551616 ≥ 9223372036854775808 then x % 18446744073709551616 - 18446744073709551616 else x % 18446744073709551616 := by
    simp [IntKind.wrap, IntKind.bits, IntKind.signed]
  rw [e]; split <;> omega
theorem resultsE_at {fn : Func} {v : AV} (e : (mapOpt (resultE P h ρ) fn.results.toList).map oneOr = some v) : resultsE P fn ρ h = some v := e
theorem fin_ret0 {fn : Func} {R : AV → AH → Prop} (e : fn.results.toList = []) (q : R (.tuple []) h) : finE P k fn R .ret ρ [] h := fin_ret (by unfold resultsE; rw [e]; rfl) q
theorem fin_ret1 {fn : Func} {R : AV → AH → Prop} {a : Tmp} (e : fn.results.toList = [.tmp a]) (q : R (ρ a) h) : finE P k fn R .ret ρ [] h := fin_ret (by unfold resultsE; rw [e]; rfl) q
theorem fin_ret2 {fn : Func} {R : AV → AH → Prop} {a b : Tmp} (e : fn.results.toList = [.tmp a, .tmp b]) (q : R (.tuple [ρ a, ρ b]) h) : finE P k fn R .ret ρ [] h := fin_ret (by unfold resultsE; rw [e]; rfl) q
theorem fin_ret3 {fn : Func} {R : AV → AH → Prop} {a b c : Tmp} (e : fn.results.toList = [.tmp a, .tmp b, .tmp c]) (q : R (.tuple [ρ a, ρ b, ρ c]) h) : finE P k fn R .ret ρ [] h := fin_ret (by unfold resultsE; rw [e]; rfl) q
theorem fin_normal0 {fn : Func} {R : AV → AH → Prop} (e : fn.results.toList = []) (q : R (.tuple []) h) : finE P k fn R .normal ρ [] h := fin_normal (by unfold resultsE; rw [e]; rfl) q
theorem bare_ws : (bare h).ws = [] := rfl
theorem bare_push_ws {o : AO} : ((bare h).push o).ws = [] := rfl
theorem bare_get {id : Nat} : (bare h).get id = h.get id := rfl
theorem bare_n : (bare h).n = h.n := rfl
theorem bare_wf (wf : h.WF) : (bare h).WF := wf
theorem loadA_bare {t : TypeId} {a : AV} : loadA P (bare h) t a = loadA P h t a := rfl
theorem wpOs_cons {o : Oper} {os : List Oper} : wpOs P rnd ops (o :: os) K ρ df h = wpO P rnd ops o (wpOs P rnd ops os K) ρ df h := rfl
theorem wpOs_nil : wpOs P rnd ops [] K ρ df h = K ρ df h := rfl
theorem wpQs_cons {dd : List Nat} {i : Nat} {o : Oper} {os : List Oper} : wpQs P ops dd i (o :: os) K ρ df h = wpQ P ops dd i o (wpQs P ops dd (i + 1) os K) ρ df h := rfl
theorem wpQs_nil {dd : List Nat} {i : Nat} : wpQs P ops dd i [] K ρ df h = K ρ df h := rfl
@[congr] theorem onWant_congr {r r' : Option Bool} {A B : Prop} (e : r = r') : onWant r A B = onWant r' A B := by rw [e]
@[congr] theorem onVal_congr {r r' : Option (AV × AH)} {K : AV → AH → Prop} (e : r = r') : onVal r K = onVal r' K := by rw [e]
@[congr] theorem branch_congr {t t' : Bool} {A B : Prop} (e : t = t') : branch t A B = branch t' A B := by rw [e]
theorem int_beq (a b : Int) : (a == b) = decide (a = b) := rfl
theorem int_bne (a b : Int) : (a != b) = !decide (a = b) := rfl
theorem beq_tf : (true == false) = false := rfl
theorem beq_ft : (false == true) = false := rfl
theorem beq_tt : (true == true) = true := rfl
theorem beq_ff : (false == false) = true := rfl
end
section
variable {P : Program} {h : AH} {ρA : Operand → Option AV} {K : AV → AH → Prop}
theorem on_move {x : Operand} : onOp P ρA (.move x) h K = onVal ((ρA x).map fun v => (v, h)) K := rfl
theorem on_assign {x : Operand} : onOp P ρA (.assign x) h K = onVal ((ρA x).map fun v => (v, h)) K := rfl
theorem on_pick {c a b : Operand} : onOp P ρA (.pick c a b) h K = onVal (match ρA c with
    | some (.bool true) => (ρA a).map fun v => (v, h)
    | some (.bool false) => (ρA b).map fun v => (v, h)
    | _ => none) K := rfl
theorem on_alloc {e : TypeId} : onOp P ρA (.alloc e) h K = onVal (match zeroA P e with
    | some z => allocA P h e z
    | none => none) K := rfl
theorem on_box {e : TypeId} {x : Operand} : onOp P ρA (.box e x) h K = onVal (match ρA x with
    | some v => newVarA h v
    | none => none) K := rfl
theorem on_build {t : TypeId} {ps : List (Nat × Operand)} : onOp P ρA (.build t ps.toArray) h K = onVal (match mapOpt (fun p : Nat × Operand => (ρA p.2).map fun v => (p.1, v)) ps with
    | some vs => (buildA P t vs).map fun v => (v, h)
    | none => none) K := by simp only [onOp, opA, List.toList_toArray]; rfl
theorem on_buildSlice {t : TypeId} {n : Nat} {ps : List (Nat × Operand)} : onOp P ρA (.buildSlice t n ps.toArray) h K = onVal (match mapOpt (fun p : Nat × Operand => (ρA p.2).map fun v => (p.1, v)) ps with
    | some vs => buildSliceA P h t n vs
    | none => none) K := by simp only [onOp, opA, List.toList_toArray]; rfl
theorem on_load {t : TypeId} {a : Operand} : onOp P ρA (.load t a) h K = onVal (match ρA a with
    | some a => (loadA P h t a).map fun v => (v, h)
    | none => none) K := rfl
theorem on_store {t : TypeId} {a x : Operand} : onOp P ρA (.store t a x) h K = onVal (match ρA a, ρA x with
    | some a, some v => (storeA P h t a v).map fun h' => (undefA, h')
    | _, _ => none) K := rfl
theorem on_nilCheck {x : Operand} : onOp P ρA (.nilCheck x) h K = onVal (match ρA x with
    | some (.ptr id off) => some (.ptr id off, h)
    | some (.ipt cs off) => some (.ipt cs off, h)
    | some (.func f xs ys) => some (.func f xs ys, h)
    | some (.yieldf l) => some (.yieldf l, h)
    | _ => none) K := rfl
theorem on_binOp {op : BinOp} {t u : TypeId} {x y : Operand} : onOp P ρA (.binOp op t x y u) h K = onVal (match ρA x, ρA y with
    | some a, some b => bif guardA P op t x y a b then (binA P op t a b).map fun v => (v, h) else none
    | _, _ => none) K := rfl
theorem on_unOp {op : UnOp} {t : TypeId} {x : Operand} : onOp P ρA (.unOp op t x) h K = onVal (match ρA x with
    | some a => (unaryA op a).map fun v => (v, h)
    | none => none) K := rfl
theorem on_convert {s d : TypeId} {x : Operand} : onOp P ρA (.convert s d x) h K = onVal (match ρA x with
    | some a => (convertA P s d a).map fun v => (v, h)
    | none => none) K := rfl
theorem on_makeFunc {f : FuncId} {xs ys : List Operand} : onOp P ρA (.makeFunc (.func f) xs.toArray ys.toArray) h K = onVal (match mapOpt ρA xs, mapOpt ρA ys with
    | some xs, some ys => some (.func f xs ys, h)
    | _, _ => none) K := by simp only [onOp, opA]; cases mapOpt ρA xs <;> cases mapOpt ρA ys <;> rfl
theorem on_makeMap {t : TypeId} {r : Option Operand} : onOp P ρA (.makeMap t r) h K = onVal (match optOpt ρA r with
    | some r => makeMapA P h t r
    | none => none) K := rfl
theorem on_makeSlice {t : TypeId} {l c : Operand} : onOp P ρA (.makeSlice t l c) h K = onVal (match ρA l, ρA c with
    | some l, some c => makeSliceA P h t l c
    | _, _ => none) K := rfl
theorem on_slice {t : TypeId} {x : Operand} {l hi m : Option Operand} : onOp P ρA (.slice t x l hi m) h K = onVal (match ρA x, optOpt ρA l, optOpt ρA hi, optOpt ρA m with
    | some x, some l, some hi, some m => (sliceA P t x l hi m).map fun v => (v, h)
    | _, _, _, _ => none) K := rfl
theorem on_fieldAddr {t : TypeId} {x : Operand} {f : Nat} : onOp P ρA (.fieldAddr t x f) h K = onVal (match ρA x with
    | some x => (fieldAddrA P t x f).map fun v => (v, h)
    | none => none) K := rfl
theorem on_field {t : TypeId} {x : Operand} {f : Nat} : onOp P ρA (.field t x f) h K = onVal (match ρA x with
    | some x => (fieldA P t x f).map fun v => (v, h)
    | none => none) K := rfl
theorem on_indexAddr {t : TypeId} {x i : Operand} : onOp P ρA (.indexAddr t x i) h K = onVal (match ρA x, ρA i with
    | some x, some i => (indexAddrA P t x i).map fun v => (v, h)
    | _, _ => none) K := rfl
theorem on_index {t : TypeId} {x i : Operand} : onOp P ρA (.index t x i) h K = onVal (match ρA x, ρA i with
    | some x, some i => (indexA P t x i).map fun v => (v, h)
    | _, _ => none) K := rfl
theorem on_lookup {t : TypeId} {m k : Operand} {ok : Bool} : onOp P ρA (.lookup t m k ok) h K = onVal (match ρA m, ρA k with
    | some m, some k => (lookupA P h t m k ok).map fun v => (v, h)
    | _, _ => none) K := rfl
theorem on_mapUpdate {t : TypeId} {m k v : Operand} : onOp P ρA (.mapUpdate t m k v) h K = onVal (match ρA m, ρA k, ρA v with
    | some m, some k, some v => (mapUpdateA P h t m k v).map fun h' => (undefA, h')
    | _, _, _ => none) K := rfl
theorem on_extract {x : Operand} {i : Nat} : onOp P ρA (.extract x i) h K = onVal (match ρA x with
    | some (.tuple vs) => (vs[i]?).map fun v => (v, h)
    | _ => none) K := rfl
theorem on_builtin {b : Builtin} {args : List Operand} {ats : List TypeId} : onOp P ρA (.call { callee := .builtin b, args := args.toArray, argTypes := ats.toArray }) h K = onVal (match mapOpt ρA args with
    | some vs => builtinA P h b ats vs
    | none => none) K := by simp only [onOp, opA, List.toList_toArray]; rfl
theorem on_call {f : Operand} {args : List Operand} {ats : Array TypeId} : onOp P ρA (.call { callee := .value f, args := args.toArray, argTypes := ats }) h K = (match ρA f, mapOpt ρA args with
    | some fv, some vs => onCall P fv vs h K
    | _, _ => False) := by simp only [onOp, List.toList_toArray]; rfl
end
attribute [go_sem] on_move on_assign on_pick on_alloc on_box on_build on_buildSlice on_load on_store on_nilCheck on_binOp on_unOp on_convert on_makeFunc on_makeMap on_makeSlice on_slice on_fieldAddr on_field on_indexAddr on_index on_lookup on_mapUpdate on_extract on_builtin on_call
attribute [go_sem] qK_bare qK_push qK_ws int_beq int_bne bare_ws bare_push_ws bare_get bare_n loadA_bare true_or or_true beq_tf beq_ft beq_tt beq_ff wpOs_cons wpOs_nil wpQs_cons wpQs_nil wpO_no wpO_gd wpQ_no wpQ_gd branch_true branch_false onVal_some updO_some updO_none upd_get thenE_normal thenE_ret thenE_exit inE_normal inE_ret inE_exit startE_get
  isDefer evalE ofVal newVarA AV.box mapOpt optOpt binA_int guardA_int guardA_bool guardA_str intBinA re_bare re_push unaryA
  Option.map_some Option.map_none Option.bind_some List.getD_cons_zero List.getD_cons_succ List.getElem?_cons_zero List.getElem?_cons_succ List.getElem?_toArray
  Nat.reduceEqDiff if_true if_false Nat.zero_add Nat.add_zero cond_true cond_false ne_eq reduceCtorEq not_false_eq_true List.nil_append List.append_nil List.cons_append Bool.not_true Bool.not_false and_self true_and and_true decide_true decide_false
end Go.Ai
