/- One step of a region, in the model, where the abstract machine takes it; calls. -/
import Derived.Test.YthllmdjcogjkoaaDoorAi11
namespace Go.Ai
set_option linter.unusedSimpArgs false
set_option linter.unusedVariables false

theorem mapOpt_congr {α β : Type} {f g : α → Option β} : ∀ {l : List α}, (∀ x ∈ l, f x = g x) → mapOpt f l = mapOpt g l
  | [], _ => rfl
  | a :: l, h => by simp only [mapOpt]; rw [h a (by simp), mapOpt_congr (l := l) fun x hx => h x (by simp [hx])]
theorem optOpt_congr {α β : Type} {f g : α → Option β} {x : Option α} (h : ∀ y, x = some y → f y = g y) : optOpt f x = optOpt g x := by
  cases x with
  | none => rfl
  | some y => simp only [optOpt]; rw [h y rfl]

theorem opA_congr {P : Program} {ρ ρ' : Operand → Option AV} {op : Op} {h : AH} (e : ∀ x ∈ op.operands, ρ x = ρ' x) : opA P ρ op h = opA P ρ' op h := by
  have pairs : ∀ ps : Array (Nat × Operand), (∀ x ∈ ps.toList.map (·.2), ρ x = ρ' x) →
      mapOpt (fun p : Nat × Operand => (ρ p.2).map fun v => (p.1, v)) ps.toList = mapOpt (fun p : Nat × Operand => (ρ' p.2).map fun v => (p.1, v)) ps.toList := fun ps hp =>
    mapOpt_congr fun p hm => by rw [hp p.2 (List.mem_map.2 ⟨p, hm, rfl⟩)]
  cases op <;> simp only [Op.operands] at e <;> simp only [opA]
  case build t ps => rw [pairs ps fun x hx => e x (by simpa using hx)]
  case buildSlice t n ps => rw [pairs ps fun x hx => e x (by simpa using hx)]
  case makeFunc fn xs ys =>
    rw [mapOpt_congr (l := xs.toList) fun x hx => e x (by simp at hx; simp [hx]), mapOpt_congr (l := ys.toList) fun x hx => e x (by simp at hx; simp [hx])]
  case makeMap t r => rw [optOpt_congr fun y hy => e y (by simp [hy])]
  case slice t x lo hi mx =>
    rw [optOpt_congr (x := lo) fun y hy => e y (by simp [hy]), optOpt_congr (x := hi) fun y hy => e y (by simp [hy]), optOpt_congr (x := mx) fun y hy => e y (by simp [hy]), e x (by simp)]
  case call c =>
    obtain ⟨callee, args, ats⟩ := c
    cases callee <;> simp only [opA]
    rw [mapOpt_congr (l := args.toList) fun x hx => e x (by simp at hx; simp [Call.operands, hx])]
  all_goals (first | rfl | (simp_all; done))
theorem readsA_congr {ρ ρ' : Operand → Option AV} {op : Op} (e : ∀ x ∈ op.operands, ρ x = ρ' x) : readsA ρ op = readsA ρ' op := by
  cases op <;> simp only [Op.operands] at e <;> simp only [readsA]
  case load t a => rw [e a (by simp)]
  case lookup t m k ok => rw [e m (by simp)]
  case call c =>
    obtain ⟨callee, args, ats⟩ := c
    have hm : mapOpt ρ args.toList = mapOpt ρ' args.toList := mapOpt_congr (l := args.toList) fun x hx => e x (by simp at hx; simp [Call.operands, hx])
    cases callee <;> try rfl
    rename_i b
    cases b <;> first | rfl | (simp only [readsA, hm])
theorem lightA_congr {ρ ρ' : Operand → Option AV} {op : Op} (e : ∀ x ∈ op.operands, ρ x = ρ' x) : lightA ρ op = lightA ρ' op := by
  unfold lightA; rw [readsA_congr e]

open Classical in
/-- The operands of an operation alone. -/
noncomputable def only (op : Op) (ρ : Operand → Option AV) : Operand → Option AV := fun x => if x ∈ op.operands then ρ x else none
theorem only_eq (op : Op) (ρ : Operand → Option AV) : ∀ x ∈ op.operands, ρ x = only op ρ x := fun x hx => by simp [only, hx]

section
variable {P : Program} {B : Nat} {w0 w w1 w2 : World} {M M1 M2 : Mp} {X Y1 Y2 : Nat → Option AO} {h h1 h2 : AH}

theorem Stp.trans (n1 : h.n ≤ h1.n) (n2 : h1.n ≤ h2.n) (a : Stp B w0 M h h1 Y1 M1 w1) (b : Stp B w0 M1 h1 h2 Y2 M2 w2) : Stp B w0 M h h2 Y2 M2 w2 where
  le := a.le.trans b.le
  dom := fun id e hid => b.dom id (a.dom id e (by omega)) (by omega)
  rel := b.rel
theorem ovr_ovr (X : Nat → Option AO) (n : h1.n ≤ h2.n) : ovr h2 (ovr h1 X) = ovr h2 X := by
  funext id; unfold ovr
  split
  · rfl
  · rw [if_neg (by omega)]
theorem ovr_agree (X : Nat → Option AO) : ∀ id, id < h.n → ovr h X id = h.get id := fun id e => by unfold ovr; rw [if_pos e]
/-- Two steps, the one behind the other. -/
theorem Stp.andThen (n1 : h.n ≤ h1.n) (n2 : h1.n ≤ h2.n) (a : Stp B w0 M h h1 (ovr h1 X) M1 w1) (b : Stp B w0 M1 h1 h2 (ovr h2 (ovr h1 X)) M2 w2) : Stp B w0 M h h2 (ovr h2 X) M2 w2 := by
  have := a.trans n1 n2 b
  rwa [ovr_ovr X n2] at this
/-- What is not there yet is not there behind the first step. -/
theorem Stp.free (n1 : h.n ≤ h1.n) (a : Stp B w0 M h h1 Y1 M1 w1) (hM : ∀ id, h.n ≤ id → id < h2.n → M id = none) : ∀ id, h1.n ≤ id → id < h2.n → M1 id = none :=
  fun id e1 e2 => a.dom id (hM id (by omega) e2) (.inr e1)

/-- No fence, in a round or out of it. -/
def fen (r : Option Nat) : Fence := { Fence.wide with round := r }

def Enters (P : Program) (f : FuncId) : Prop := ∃ fn c, P.funcs[f]? = some fn ∧ fn.body = some c ∧ (fn.name == "runtime.NumGoroutine") = false
/-- A call has returned. -/
def Back (B : Nat) (w0 : World) (M : Mp) (X : Nat → Option AO) (h : AH) (r : AV × AH) (e : Ending) (w' : World) : Prop :=
  ∃ v, e = .returned v ∧ ∃ M', Stp B w0 M h r.2 (ovr r.2 X) M' w' ∧ RV M' r.1 v

structure Calling (P : Program) (t : Tg) (args : List AV) (h : AH) (r : AV × AH) : Prop where
  wf : r.2.WF
  ext : Ext h r.2
  fn : ∀ f, t = .fn f → Enters P f
  call : ∀ f, t = .fn f → ∀ (n B : Nat) (w0 : World) (M : Mp) (X : Nat → Option AO) (w : World) (args' : Array Value), RVs M args args'.toList → Rel B w0 M X w →
    (∀ id, h.n ≤ id → id < r.2.n → M id = none) → (∀ id, id < h.n → X id = h.get id) → CallsIn (fen none) n P f args' w (Back B w0 M X h r)
  round : ∀ l, t = .yield l → ∀ (n B : Nat) (w0 : World) (M : Mp) (X : Nat → Option AO) (w : World) (args' : Array Value) (p : Pt), RVs M args args'.toList → Rel B w0 M X w →
    (∀ id, h.n ≤ id → id < r.2.n → M id = none) → (∀ id, id < h.n → X id = h.get id) → M l = some p →
    ∃ fn tmps assign body, (Instr.yield p.blk args').run P w = .ok (.round p.blk fn tmps assign body) w ∧ RoundIn (fen none) n P p.blk fn tmps assign body w (Back B w0 M X h r)

def InvOk (P : Program) (inv : Inv) : Prop := ∀ t args h r, inv t args h = some r → h.WF → Calling P t args h r

theorem run_callFunc {f : FuncId} (e : Enters P f) (args : Array Value) : (callFunc f args).run P w = .ok (.enter f args) w := by
  obtain ⟨fn, c, h1, h2, h3⟩ := e
  have hp : (program).run P w = .ok P w := rfl
  simp only [callFunc, Sem.run_bind, hp, Result.andThen_ok, h1, h3, Bool.false_eq_true, if_false, h2, Option.isNone_some, Sem.run_pure]

/-- A call of a function value. -/
theorem callA_ok {inv : Inv} (S : InvOk P inv) {fv : AV} {vs : List AV} {r : AV × AH} (e : callA inv fv vs h = some r) (wf : h.WF) :
    r.2.WF ∧ Ext h r.2 ∧ ∀ {n B : Nat} {w0 w : World} {M : Mp} {X : Nat → Option AO} {f' : Value} {args' : Array Value} {o : Oper} {a : Act} {K : Act → World → Prop} {Q : Exit → Act → World → Prop} {ro : Option Nat},
      RV M fv f' → RVs M vs args'.toList → Rel B w0 M X w → (∀ id, h.n ≤ id → id < r.2.n → M id = none) → (∀ id, id < h.n → X id = h.get id) →
      (∀ v' M' w', Stp B w0 M h r.2 (ovr r.2 X) M' w' → RV M' r.1 v' → K (a.put o.dst v') w') →
      o.uponIn (fen ro) n P a K Q ((do let d ← Deferred.ofValue f' args'; invoke d.target d.args : Sem Next).run P w) := by
  unfold callA at e
  split at e
  · rename_i g xs ys
    have C := S _ _ _ _ e wf
    refine ⟨C.wf, C.ext, ?_⟩
    intro n B w0 w M X f' args' o a K Q ro hf ha R hM agree k
    obtain ⟨xs', ys', rfl, hx, hy⟩ := hf
    have hargs : RVs M (xs ++ vs ++ ys) (xs' ++ args' ++ ys').toList := by simp only [Array.toList_append]; exact (hx.append ha).append hy
    simp only [Deferred.ofValue, Sem.run_bind, Sem.run_pure, Result.andThen_ok, invoke, run_callFunc (C.fn g rfl), Oper.uponIn_enter]
    refine ⟨fun h => by simp [fen, Fence.wide] at h, CallsIn.mono (C.call g rfl (n - 1) B w0 M X w _ hargs R hM agree) fun e w' hb => ?_⟩
    obtain ⟨v, rfl, M', h1, h2⟩ := hb
    exact k _ _ _ h1 h2
  · rename_i l
    have C := S _ _ _ _ e wf
    refine ⟨C.wf, C.ext, ?_⟩
    intro n B w0 w M X f' args' o a K Q ro hf ha R hM agree k
    obtain ⟨p, hp, rfl⟩ := hf
    obtain ⟨fn, tmps, assign, body, hrun, hround⟩ := C.round l rfl (n - 1) B w0 M X w args' p ha R hM agree hp
    simp only [Deferred.ofValue, Sem.run_bind, Sem.run_pure, Result.andThen_ok, invoke, Array.empty_append, hrun, Oper.uponIn_round]
    refine ⟨fun h => by simp [fen, Fence.wide] at h, RoundIn.mono hround fun e w' hb => ?_⟩
    obtain ⟨v, rfl, M', h1, h2⟩ := hb
    exact k _ _ _ h1 h2
  · simp at e

/-! ### What is wanted; operands -/
theorem evalA_ok {tm : List AV} {a : Act} {x : Operand} {v : AV} (e : evalA tm x = some v) (look : ∀ t, x = .tmp t → RV M (tm.getD t undefA) (a.tmps.getD t undef)) : RV M v (a.eval x) := by
  cases x with
  | tmp t => simp only [evalA, Option.some.injEq] at e; subst e; exact look t rfl
  | const c => exact ofVal_ok M 4 c v e
  | global g => simp [evalA] at e
  | func f => simp only [evalA, Option.some.injEq] at e; subst e; exact ⟨#[], #[], rfl, rfl, rfl⟩
theorem getD_of_some {l : List AV} {d : Nat} {v : AV} (h : l[d]? = some v) : l.getD d undefA = v := by simp [List.getD_eq_getElem?_getD, h]

theorem wantedA_ok {ops : Array Oper} {o : Oper} {tm : List AV} {a : Act} {b : Bool} (e : wantedA ops o tm = some b) (look : ∀ t ∈ o.looksAt ops, RV M (tm.getD t undefA) (a.tmps.getD t undef)) :
    Region.wanted o (yielded ops a.tmps) = b := by
  unfold wantedA at e
  unfold Region.wanted
  split at e
  · rename_i hg; injection e with e; subst e; rw [hg]
  · rename_i j want hg
    rw [hg]
    simp only
    unfold yielded
    split at e
    · rename_i g hgo
      split at e
      · rename_i d hd
        have hl := look d (List.mem_append_right _ (by simp [hg, hgo, hd]))
        simp only [hgo, Option.bind_some, hd]
        split at e
        · rename_i bb htm
          injection e with e; subst e
          rw [getD_of_some htm] at hl
          have : a.tmps[d]? = some (.bool bb) := by
            have hl' : a.tmps.getD d undef = .bool bb := hl
            rw [Array.getD_eq_getD_getElem?] at hl'
            cases hx : a.tmps[d]? with
            | none => rw [hx] at hl'; simp [undef] at hl'
            | some v => rw [hx] at hl'; simp at hl'; rw [hl']
          rw [this]; cases bb <;> cases want <;> rfl
        · rename_i vs htm
          injection e with e; subst e
          rw [getD_of_some htm] at hl
          obtain ⟨cs', hl', _⟩ := hl
          have : ∀ b, a.tmps[d]? ≠ some (.bool b) := by
            intro b hb
            rw [Array.getD_eq_getD_getElem?, hb] at hl'
            simp at hl'
          cases hx : a.tmps[d]? with
          | none => rfl
          | some v => cases v <;> first | rfl | exact absurd hx (this _)
        · simp at e
      · rename_i hd; injection e with e; subst e; simp [hgo, hd]
    · rename_i hgo; injection e with e; subst e; simp [hgo]
end
end Go.Ai
