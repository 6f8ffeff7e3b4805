/- A calculus to walk a function's code with open inputs; calls are answered by contracts. -/
import Derived.Test.YthllmdjcogjkoaaDoorAi20
namespace Go.Ai
set_option linter.unusedSimpArgs false
set_option linter.unusedVariables false

abbrev Env := Nat → AV
def upd (ρ : Env) (d : Nat) (v : AV) : Env := fun t => if t = d then v else ρ t
def updO (ρ : Env) (dst : Option Tmp) (v : AV) : Env := match dst with
  | some d => upd ρ d v
  | none => ρ
def envOf (tm : List AV) : Env := fun t => tm.getD t undefA
def evalE (ρ : Env) : Operand → Option AV
  | .tmp t => some (ρ t)
  | .const v => ofVal 4 v
  | .global _ => none
  | .func f => some (.func f [] [])
theorem evalE_eq (tm : List AV) : evalE (envOf tm) = evalA tm := by funext x; cases x <;> rfl
theorem envOf_put {tm : List AV} {dst : Option Tmp} (h : ∀ d, dst = some d → d < tm.length) (v : AV) : envOf (putA tm dst v) = updO (envOf tm) dst v := by
  cases dst with
  | none => rfl
  | some d =>
    funext t
    simp only [envOf, putA, updO, upd, List.getD_eq_getElem?_getD]
    by_cases e : t = d
    · subst e; rw [if_pos rfl, List.getElem?_set_self (h t rfl)]; rfl
    · rw [if_neg e, List.getElem?_set_ne (Ne.symm e)]

def wantE (v : AV) (want : Bool) : Option Bool := match v with
  | .bool b => some (b == want)
  | .tuple _ => some false
  | _ => none
def wantedE (ops : Array Oper) (o : Oper) (ρ : Env) : Option Bool :=
  match o.guard with
  | none => some true
  | some (j, want) =>
    match ops[j]? with
    | some g => match g.dst with
      | some d => wantE (ρ d) want
      | none => some false
    | none => some false
def dstsOk (n : Nat) (ops : Array Oper) : Bool := ops.toList.all fun o => match o.dst with
  | some d => decide (d < n)
  | none => true
theorem dstsOk_at {n : Nat} {ops : Array Oper} (h : dstsOk n ops = true) {j : Nat} {o : Oper} (ho : ops[j]? = some o) {d : Tmp} (hd : o.dst = some d) : d < n := by
  simp only [dstsOk, List.all_eq_true] at h
  have := h o (Array.mem_toList_iff.2 (Array.mem_of_getElem? ho))
  rw [hd] at this; simpa using this
theorem wantedE_eq {ops : Array Oper} {o : Oper} {tm : List AV} (h : dstsOk tm.length ops = true) : wantedE ops o (envOf tm) = wantedA ops o tm := by
  unfold wantedE wantedA
  cases hg : o.guard with
  | none => rfl
  | some jw =>
    obtain ⟨j, want⟩ := jw
    dsimp only
    cases ho : ops[j]? with
    | none => rfl
    | some g =>
      dsimp only
      cases hd : g.dst with
      | none => rfl
      | some d =>
        have := dstsOk_at h ho hd
        dsimp only
        rw [List.getElem?_eq_getElem this]
        have e : envOf tm d = tm[d] := by simp [envOf, List.getD_eq_getElem?_getD, List.getElem?_eq_getElem this]
        rw [e]
        unfold wantE
        cases tm[d] <;> rfl

def branch (t : Bool) (A B : Prop) : Prop := (t = true → A) ∧ (t = false → B)
/-- (A structure: so that nothing looks into it.) -/
structure onVal (r : Option (AV × AH)) (K : AV → AH → Prop) : Prop where
  ex : ∃ v h, r = some (v, h) ∧ K v h
theorem onVal_iff {r : Option (AV × AH)} {K : AV → AH → Prop} : onVal r K ↔ ∃ v h, r = some (v, h) ∧ K v h := ⟨fun h => h.ex, fun h => ⟨h⟩⟩
/-- A guard: carried out, or not. -/
def onWant (r : Option Bool) (A B : Prop) : Prop := match r with
  | some t => branch t A B
  | none => False

/-- A call's answer, by a contract. -/
def onCall (P : Program) (fv : AV) (vs : List AV) (h : AH) (K : AV → AH → Prop) : Prop := match fv with
  | .func g xs ys => h.WF → ∃ r, Calling P (.fn g) (xs ++ vs ++ ys) h r ∧ K r.1 r.2
  | .yieldf l => h.WF → ∃ r, Calling P (.yield l) vs h r ∧ K r.1 r.2
  | _ => False
def onOp (P : Program) (ρ : Operand → Option AV) (op : Op) (h : AH) (K : AV → AH → Prop) : Prop := match op with
  | .call { callee := .value f, args, argTypes := _ } => match ρ f, mapOpt ρ args.toList with
    | some fv, some vs => onCall P fv vs h K
    | _, _ => False
  | op => onVal (opA P ρ op h) K

section
variable (P : Program) (rnd : Option Nat) (ops : Array Oper)
abbrev Kon := Env → List ADef → AH → Prop
abbrev Pst := Ex → Env → List ADef → AH → Prop

def deferE (rnd : Option Nat) (ρ : Env) (c : Call) (df : List ADef) (K : List ADef → Prop) : Prop :=
  rnd = none ∧ match c with
    | { callee := .value f, args, argTypes := _ } => match evalE ρ f, mapOpt (evalE ρ) args.toList with
      | some (.func g xs ys), some vs => K (.call g (xs ++ vs ++ ys) :: df)
      | _, _ => False
    | _ => False
def isDefer : Op → Option Call
  | .defer c => some c
  | _ => none
def wpO (o : Oper) (K : Kon) (ρ : Env) (df : List ADef) (h : AH) : Prop :=
  onWant (wantedE ops o ρ)
    (match isDefer o.op with
      | some c => deferE rnd ρ c df fun df => K (updO ρ o.dst undefA) df h
      | none => onOp P (evalE ρ) o.op h fun v h => K (updO ρ o.dst v) df h)
    (K (updO ρ o.dst undefA) df h)
def wpOs : List Oper → Kon → Kon
  | [], K => K
  | o :: os, K => fun ρ df h => wpO P rnd ops o (wpOs os K) ρ df h

/-- In a region that draws: the heap of a step, behind it. -/
def re (h1 h : AH) : AH := { h1 with pb := h.pb, ws := h1.ws.filter (fun id => decide (id < h.pb)) ++ h.ws }
/-- An operation in a region that draws: it writes nothing that was there, or it is told. -/
def wpQ (dd : List Nat) (i : Nat) (o : Oper) (K : Kon) (ρ : Env) (df : List ADef) (h : AH) : Prop :=
  onWant (wantedE ops o ρ)
    (isDefer o.op = none ∧ onOp P (evalE ρ) o.op (bare h) fun v h1 => (h1.ws = [] ∨ i ∈ dd) ∧ K (updO ρ o.dst v) df (re h1 h))
    (K (updO ρ o.dst undefA) df h)
def wpQs (dd : List Nat) : Nat → List Oper → Kon → Kon
  | _, [], K => K
  | i, o :: os, K => fun ρ df h => wpQ P ops dd i o (wpQs dd (i + 1) os K) ρ df h
/-- The told ones come in order with all that touch memory. -/
def toldOk (dd : List Nat) : Bool :=
  let b := Region.before ops
  dd.all fun d => (List.range ops.size).all fun j => j == d || ordered b d j || (match ops[j]? with | some o => pureOp o.op | none => true)
def wpD (K : Kon) (ρ : Env) (df : List ADef) (h : AH) : Prop := ∃ dd, toldOk ops dd = true ∧ wpQs P ops dd 0 ops.toList K ρ df h

def thenE (K : Kon) (Q : Pst) : Pst := fun e ρ df h => match e with
  | .normal => K ρ df h
  | e => Q e ρ df h
def inE (id : Nat) (Q : Pst) : Pst := fun e ρ df h => match e with
  | .exit i => if i = id then Q .normal ρ df h else Q (.exit i) ρ df h
  | e => Q e ρ df h
def loopW : Nat → (Pst → Kon) → Pst → Kon
  | 0, _, _ => fun _ _ _ => False
  | k + 1, F, Q => fun ρ df h => F (thenE (loopW k F Q) Q) ρ df h
def onCond (r : Option AV) (A B : Prop) : Prop := match r with
  | some (.bool t) => branch t A B
  | _ => False
def wpE (k : Nat) : Code → Pst → Kon
  | .skip, Q => fun ρ df h => Q .normal ρ df h
  | .label _, Q => fun ρ df h => Q .normal ρ df h
  | .region _ ops draw, Q => fun ρ df h => if draw = true then wpD P ops (Q .normal) ρ df h else wpOs P rnd ops ops.toList (Q .normal) ρ df h
  | .seq a b, Q => fun ρ df h => wpE k a (thenE (wpE k b Q) Q) ρ df h
  | .cond c a b, Q => fun ρ df h => onCond (evalE ρ c) (wpE k a Q ρ df h) (wpE k b Q ρ df h)
  | .block id c, Q => fun ρ df h => wpE k c (inE id Q) ρ df h
  | .loop c, Q => fun ρ df h => loopW k (wpE k c) Q ρ df h
  | .exit id, Q => fun ρ df h => Q (.exit id) ρ df h
  | .ret, Q => fun ρ df h => Q .ret ρ df h
  | _, _ => fun _ _ _ => False
def tmOk (n : Nat) : Code → Bool
  | .region _ ops _ => dstsOk n ops
  | .seq a b => tmOk n a && tmOk n b
  | .cond _ a b => tmOk n a && tmOk n b
  | .block _ c => tmOk n c
  | .loop c => tmOk n c
  | _ => true
end

/-! ### What the tape makes of calls -/
open Classical in
noncomputable def invTp (P : Program) : Inv := fun t args h => match h.tp with
  | (v, t', n', ws') :: rest => if Calling P t args h (v, { t := t', n := n', pb := h.pb, ws := ws', tp := rest }) then some (v, { t := t', n := n', pb := h.pb, ws := ws', tp := rest }) else none
  | [] => none
theorem invTp_ok (P : Program) : InvOk P (invTp P) := by
  intro t args h r e _
  unfold invTp at e
  split at e
  · split at e
    · rename_i hh; injection e with e; subst e; exact hh
    · cases e
  · cases e
theorem Back.to {B : Nat} {w0 w : World} {M : Mp} {X : Nat → Option AO} {h g : AH} {r q : AV × AH} {e : Ending} (h1 : g.n = h.n) (h2 : q.2.n = r.2.n) (h3 : q.2.t = r.2.t) (h4 : q.1 = r.1) (b : Back B w0 M X h r e w) : Back B w0 M X g q e w := by
  obtain ⟨v, he, M', st, hv⟩ := b
  have e1 : ovr q.2 X = ovr r.2 X := by funext id; unfold ovr AH.get; rw [h2, h3]
  exact ⟨v, he, M', ⟨st.le, fun id a b => st.dom id a (by rw [h1, h2] at b; exact b), by rw [e1]; exact st.rel⟩, by rw [h4]; exact hv⟩
theorem Calling.tape {P : Program} {t : Tg} {args : List AV} {h : AH} {r : AV × AH} (C : Calling P t args h r) (T T' : Tape) : Calling P t args (h.tape T) (r.1, r.2.tape T') where
  wf := C.wf
  ext := ⟨C.ext.n, C.ext.pb, C.ext.ws, C.ext.same, C.ext.new⟩
  fn := C.fn
  call := fun f hf n B w0 M X w args' ha R hM agree => CallsIn.mono (C.call f hf n B w0 M X w args' ha R hM agree) fun _ _ b => Back.to (h := h) (r := r) rfl rfl rfl rfl b
  round := fun l hl n B w0 M X w args' p ha R hM agree hp => let ⟨fn, tmps, assign, body, a, b⟩ := C.round l hl n B w0 M X w args' p ha R hM agree hp; ⟨fn, tmps, assign, body, a, RoundIn.mono b fun _ _ b => Back.to (h := h) (r := r) rfl rfl rfl rfl b⟩
theorem Calling.untape {P : Program} {t : Tg} {args : List AV} {h h' : AH} {v : AV} {T T' : Tape} (C : Calling P t args (h.tape T) (v, h'.tape T')) : Calling P t args h (v, h') where
  wf := C.wf
  ext := ⟨C.ext.n, C.ext.pb, C.ext.ws, C.ext.same, C.ext.new⟩
  fn := C.fn
  call := fun f hf n B w0 M X w args' ha R hM agree => CallsIn.mono (C.call f hf n B w0 M X w args' ha R hM agree) fun _ _ b => Back.to (h := h.tape T) (r := (v, h'.tape T')) rfl rfl rfl rfl b
  round := fun l hl n B w0 M X w args' p ha R hM agree hp => let ⟨fn, tmps, assign, body, a, b⟩ := C.round l hl n B w0 M X w args' p ha R hM agree hp; ⟨fn, tmps, assign, body, a, RoundIn.mono b fun _ _ b => Back.to (h := h.tape T) (r := (v, h'.tape T')) rfl rfl rfl rfl b⟩
open Classical in
theorem invTp_at {P : Program} {t : Tg} {args : List AV} {h : AH} {r : AV × AH} (C : Calling P t args h r) (T' : Tape) :
    invTp P t args (h.tape ((r.1, r.2.t, r.2.n, r.2.ws) :: T')) = some (r.1, r.2.tape T') := by
  have hpb : r.2.pb = h.pb := C.ext.pb
  unfold invTp
  have e : ({ t := r.2.t, n := r.2.n, pb := h.pb, ws := r.2.ws, tp := T' } : AH) = r.2.tape T' := by unfold AH.tape; rw [hpb]
  show (if Calling P t args (h.tape _) (r.1, ({ t := r.2.t, n := r.2.n, pb := h.pb, ws := r.2.ws, tp := T' } : AH)) then some (r.1, ({ t := r.2.t, n := r.2.n, pb := h.pb, ws := r.2.ws, tp := T' } : AH)) else none) = _
  rw [e, if_pos (C.tape _ _)]

section
variable {P : Program} {rnd : Option Nat} {ops : Array Oper} {n : Nat}

theorem onWant_iff {r : Option Bool} {A B : Prop} (h : onWant r A B) : (r = some true ∧ A) ∨ (r = some false ∧ B) := by
  unfold onWant at h
  split at h
  · rename_i t
    cases t with
    | true => exact .inl ⟨rfl, h.1 rfl⟩
    | false => exact .inr ⟨rfl, h.2 rfl⟩
  · exact h.elim

theorem onCall_ok {fv : AV} {vs : List AV} {h : AH} {K : AV → AH → Prop} (wf : h.WF) (e : onCall P fv vs h K) :
    ∃ T v h1, (∀ T', callA (invTp P) fv vs (h.tape (T ++ T')) = some (v, h1.tape T')) ∧ h1.WF ∧ K v h1 := by
  unfold onCall at e
  split at e
  · obtain ⟨r, C, k⟩ := e wf
    exact ⟨[(r.1, r.2.t, r.2.n, r.2.ws)], r.1, r.2, fun T' => invTp_at C T', C.wf, k⟩
  · obtain ⟨r, C, k⟩ := e wf
    exact ⟨[(r.1, r.2.t, r.2.n, r.2.ws)], r.1, r.2, fun T' => invTp_at C T', C.wf, k⟩
  · exact e.elim
theorem onOp_ok {o : Oper} {tm : List AV} {h : AH} {K : AV → AH → Prop} (wf : h.WF) (e : onOp P (evalA tm) o.op h K) :
    ∃ T v h1, (∀ T', execA P (invTp P) tm o.op (h.tape (T ++ T')) = some (v, h1.tape T')) ∧ h1.WF ∧ K v h1 := by
  cases hop : o.op with
  | call c =>
    rw [hop] at e
    obtain ⟨callee, args, ats⟩ := c
    cases callee with
    | value f =>
      simp only [onOp] at e
      split at e
      · rename_i fv vs hf hv
        obtain ⟨T, v, h1, h2, h3, h4⟩ := onCall_ok wf e
        refine ⟨T, v, h1, fun T' => ?_, h3, h4⟩
        simp only [execA, hf, hv]; exact h2 T'
      · exact e.elim
    | invoke r m =>
      simp only [onOp, opA] at e; obtain ⟨_, _, hh, _⟩ := onVal_iff.1 e; cases hh
    | builtin b =>
      simp only [onOp] at e
      obtain ⟨v, h1, hx, hk⟩ := onVal_iff.1 e
      refine ⟨[], v, h1, fun T' => ?_, (opA_wf (o := o) (by rw [hop]; exact hx) wf).1, hk⟩
      simp only [execA, List.nil_append]
      rw [opA_tape, hx]; rfl
  | _ =>
    rw [hop] at e
    simp only [onOp] at e
    obtain ⟨v, h1, hx, hk⟩ := onVal_iff.1 e
    refine ⟨[], v, h1, fun T' => ?_, (opA_wf (o := o) (by rw [hop]; exact hx) wf).1, hk⟩
    simp only [execA, List.nil_append]
    rw [opA_tape, hx]; rfl

theorem stepA_of {inv : Inv} {o : Oper} {s : St} (hd : isDefer o.op = none) (hw : wantedA ops o s.tm = some true) :
    stepA P rnd inv ops o s = match execA P inv s.tm o.op s.h with
      | some (v, h) => some { s with tm := putA s.tm o.dst v, h := h }
      | none => none := stepA_def (fun c hc => by rw [hc] at hd; cases hd) hw

theorem wpOs_ok (hok : dstsOk n ops = true) : ∀ (os : List Oper) (K : Kon) (tm : List AV) (df : List ADef) (h : AH), (∀ o ∈ os, o ∈ ops.toList) → tm.length = n → h.WF → wpOs P rnd ops os K (envOf tm) df h →
    ∃ T tm' df' h', (∀ T', opsA P rnd (invTp P) ops os ⟨tm, df, h.tape (T ++ T')⟩ = some ⟨tm', df', h'.tape T'⟩) ∧ tm'.length = n ∧ h'.WF ∧ K (envOf tm') df' h' := by
  intro os
  induction os with
  | nil => intro K tm df h _ hl wf hw; exact ⟨[], tm, df, h, fun T' => rfl, hl, wf, hw⟩
  | cons o os ih =>
    intro K tm df h hm hl wf hw
    have hdst : ∀ d, o.dst = some d → d < tm.length := by
      intro d hd
      obtain ⟨j, hj⟩ := Array.mem_iff_getElem?.1 (Array.mem_toList_iff.1 (hm o (by simp)))
      rw [hl]; exact dstsOk_at hok hj hd
    have hwE := wantedE_eq (ops := ops) (o := o) (tm := tm) (hl ▸ hok)
    simp only [wpOs, wpO] at hw
    rcases onWant_iff hw with ⟨h1, h2⟩ | ⟨h1, h2⟩
    · rw [hwE] at h1
      split at h2
      · rename_i c hc
        unfold deferE at h2
        obtain ⟨hr, h2⟩ := h2
        split at h2
        · rename_i f args ats
          split at h2
          · rename_i g xs ys vs hf hvs
            rw [evalE_eq] at hf hvs
            rw [← envOf_put hdst] at h2
            obtain ⟨T, tm', df', h', e1, e2, e3⟩ := ih K _ _ _ (fun o ho => hm o (by simp [ho])) (by rw [putA_length]; exact hl) wf h2
            refine ⟨T, tm', df', h', fun T' => ?_, e2, e3⟩
            have hop : o.op = .defer { callee := .value f, args := args, argTypes := ats } := by
              unfold isDefer at hc; split at hc
              · rename_i hh; injection hc with hc; rw [hh, hc]
              · cases hc
            have : stepA P rnd (invTp P) ops o ⟨tm, df, h.tape (T ++ T')⟩ = some { tm := putA tm o.dst undefA, df := .call g (xs ++ vs ++ ys) :: df, h := h.tape (T ++ T') } := by
              unfold stepA
              simp only [h1, hop, hr, Option.isSome_none, cond_false, hf, hvs]
            simp only [opsA, this, e1]
          · exact h2.elim
        · exact h2.elim
      · rename_i hd
        rw [evalE_eq] at h2
        obtain ⟨T1, v, h', hx, wf', hk⟩ := onOp_ok wf h2
        rw [← envOf_put hdst] at hk
        obtain ⟨T2, tm', df', h'', e1, e2, e3⟩ := ih K _ _ _ (fun o ho => hm o (by simp [ho])) (by rw [putA_length]; exact hl) wf' hk
        refine ⟨T1 ++ T2, tm', df', h'', fun T' => ?_, e2, e3⟩
        have : stepA P rnd (invTp P) ops o ⟨tm, df, h.tape (T1 ++ T2 ++ T')⟩ = some { tm := putA tm o.dst v, df := df, h := h'.tape (T2 ++ T') } := by
          rw [stepA_of hd h1, List.append_assoc, hx]
        simp only [opsA, this, e1]
    · rw [hwE] at h1
      rw [← envOf_put hdst] at h2
      obtain ⟨T, tm', df', h', e1, e2, e3⟩ := ih K _ _ _ (fun o ho => hm o (by simp [ho])) (by rw [putA_length]; exact hl) wf h2
      refine ⟨T, tm', df', h', fun T' => ?_, e2, e3⟩
      have : stepA P rnd (invTp P) ops o ⟨tm, df, h.tape (T ++ T')⟩ = some { tm := putA tm o.dst undefA, df := df, h := h.tape (T ++ T') } := by unfold stepA; simp only [h1]
      simp only [opsA, this, e1]

theorem re_bare (h : AH) : re (bare h) h = h := by cases h; simp [re, bare]
theorem re_push (h : AH) (o : AO) : re ((bare h).push o) h = h.push o := by cases h; simp [re, bare, AH.push]
theorem bare_tape (h : AH) (T : Tape) : bare (h.tape T) = (bare h).tape T := rfl
theorem re_tape (h1 h : AH) (T T' : Tape) : re (h1.tape T) (h.tape T') = (re h1 h).tape T := rfl

theorem opsD_cons {inv : Inv} {i : Nat} {o : Oper} {os : List Oper} {tm : List AV} {df : List ADef} {h : AH} {s1 : St} (e : stepA P (some 0) inv ops o ⟨tm, df, bare h⟩ = some s1) {ns : List Info} {ds : List (Nat × List Nat)} {s2 : St}
    (e2 : opsD P inv ops (i + 1) os ⟨s1.tm, s1.df, re s1.h h⟩ = some (ns, ds, s2)) :
    opsD P inv ops i (o :: os) ⟨tm, df, h⟩ = some (Info.mk h.n s1.h.n (readsA (evalA tm) o.op) :: ns, (match s1.h.ws with | [] => ds | ws => (i, ws) :: ds), s2) := by
  unfold opsD
  have e' : stepA P (some 0) inv ops o { (⟨tm, df, h⟩ : St) with h := { (⟨tm, df, h⟩ : St).h with pb := (⟨tm, df, h⟩ : St).h.n, ws := [] } } = some s1 := e
  rw [e']
  have e2' : opsD P inv ops (i + 1) os { s1 with h := { s1.h with pb := (⟨tm, df, h⟩ : St).h.pb, ws := s1.h.ws.filter (fun id => decide (id < (⟨tm, df, h⟩ : St).h.pb)) ++ (⟨tm, df, h⟩ : St).h.ws } } = some (ns, ds, s2) := e2
  dsimp only at e2' ⊢
  rw [e2']
  rfl

theorem wpQs_ok (hok : dstsOk n ops = true) (dd : List Nat) : ∀ (os : List Oper) (i : Nat) (K : Kon) (tm : List AV) (df : List ADef) (h : AH), (∀ o ∈ os, o ∈ ops.toList) → tm.length = n → h.WF → wpQs P ops dd i os K (envOf tm) df h →
    ∃ T ns ds tm' df' h', (∀ T', opsD P (invTp P) ops i os ⟨tm, df, h.tape (T ++ T')⟩ = some (ns, ds, ⟨tm', df', h'.tape T'⟩)) ∧ (∀ d w, (d, w) ∈ ds → d ∈ dd) ∧ tm'.length = n ∧ h'.WF ∧ K (envOf tm') df' h' := by
  intro os
  induction os with
  | nil => intro i K tm df h _ hl wf hw; exact ⟨[], [], [], tm, df, h, fun T' => rfl, fun _ _ h => (by cases h), hl, wf, hw⟩
  | cons o os ih =>
    intro i K tm df h hm hl wf hw
    have hdst : ∀ d, o.dst = some d → d < tm.length := by
      intro d hd
      obtain ⟨j, hj⟩ := Array.mem_iff_getElem?.1 (Array.mem_toList_iff.1 (hm o (by simp)))
      rw [hl]; exact dstsOk_at hok hj hd
    have hwE := wantedE_eq (ops := ops) (o := o) (tm := tm) (hl ▸ hok)
    simp only [wpQs, wpQ] at hw
    rcases onWant_iff hw with ⟨h1, hd, h2⟩ | ⟨h1, h2⟩
    · rw [hwE] at h1
      rw [evalE_eq] at h2
      obtain ⟨T1, v, h', hx, wf', hcl, hk⟩ := onOp_ok (show (bare h).WF from wf) h2
      rw [← envOf_put hdst] at hk
      obtain ⟨T2, ns, ds, tm', df', h'', e1, e4, e2, e3⟩ := ih (i + 1) K _ _ _ (fun o ho => hm o (by simp [ho])) (by rw [putA_length]; exact hl) (show (re h' h).WF from wf') hk
      refine ⟨T1 ++ T2, Info.mk h.n h'.n (readsA (evalA tm) o.op) :: ns, (match h'.ws with | [] => ds | ws => (i, ws) :: ds), tm', df', h'', fun T' => ?_, ?_, e2, e3⟩
      · have : stepA P (some 0) (invTp P) ops o ⟨tm, df, bare (h.tape (T1 ++ T2 ++ T'))⟩ = some { tm := putA tm o.dst v, df := df, h := h'.tape (T2 ++ T') } := by
          rw [stepA_of hd h1, List.append_assoc, bare_tape, hx]
        have k := opsD_cons this (ns := ns) (ds := ds) (s2 := ⟨tm', df', h''.tape T'⟩) (by rw [re_tape]; exact e1 T')
        exact k
      · intro d w hmem
        rcases hcl with hcl | hcl
        · have hcl' : (h').ws = [] := hcl
          simp only [hcl'] at hmem
          exact e4 d w hmem
        · split at hmem
          · exact e4 d w hmem
          · rcases List.mem_cons.1 hmem with hh | hh
            · injection hh with hh _; subst hh; exact hcl
            · exact e4 d w hh
    · rw [hwE] at h1
      rw [← envOf_put hdst] at h2
      have h2' : wpQs P ops dd (i + 1) os K (envOf (putA tm o.dst undefA)) df (re (bare h) h) := by rw [re_bare]; exact h2
      obtain ⟨T, ns, ds, tm', df', h', e1, e4, e2, e3⟩ := ih (i + 1) K _ _ _ (fun o ho => hm o (by simp [ho])) (by rw [putA_length]; exact hl) (show (re (bare h) h).WF from wf) h2'
      refine ⟨T, Info.mk h.n h.n (readsA (evalA tm) o.op) :: ns, ds, tm', df', h', fun T' => ?_, ?_, e2, e3⟩
      · have : stepA P (some 0) (invTp P) ops o ⟨tm, df, bare (h.tape (T ++ T'))⟩ = some { tm := putA tm o.dst undefA, df := df, h := (bare h).tape (T ++ T') } := by unfold stepA; simp only [h1]; rfl
        exact opsD_cons this (ns := ns) (ds := ds) (s2 := ⟨tm', df', h'.tape T'⟩) (by rw [re_tape]; exact e1 T')
      · intro d w hmem
        exact e4 d w hmem

theorem told_dirty {dd : List Nat} (ht : toldOk ops dd = true) {ns : List Info} : ∀ {ds : List (Nat × List Nat)}, (∀ d w, (d, w) ∈ ds → d ∈ dd) → dirtyOk ops (Region.before ops) ns ds = true
  | [], _ => rfl
  | (d, w) :: ds, h => by
    have hd := h d w (by simp)
    simp only [toldOk, List.all_eq_true] at ht
    have h1 := ht d hd
    unfold dirtyOk
    rw [told_dirty (by simpa only [toldOk, List.all_eq_true] using ht) (fun d w hm => h d w (by simp [hm])), Bool.and_true]
    simp only [List.all_eq_true]
    intro j hj
    rw [Bool.or_eq_true]; left; exact h1 j hj

theorem wpD_ok (hok : dstsOk n ops = true) {K : Kon} {tm : List AV} {df : List ADef} {h : AH} (hl : tm.length = n) (wf : h.WF) (hw : wpD P ops K (envOf tm) df h) :
    ∃ T tm' df' h', (∀ T', regionD P (invTp P) ops ⟨tm, df, h.tape (T ++ T')⟩ = some ⟨tm', df', h'.tape T'⟩) ∧ tm'.length = n ∧ h'.WF ∧ K (envOf tm') df' h' := by
  obtain ⟨dd, ht, hw⟩ := hw
  obtain ⟨T, ns, ds, tm', df', h', e1, e2, e3, e4⟩ := wpQs_ok hok dd ops.toList 0 K tm df h (fun _ h => h) hl wf hw
  refine ⟨T, tm', df', h', fun T' => ?_, e3, e4⟩
  unfold regionD
  rw [e1]
  have := told_dirty ht (ns := ns) e2
  cases ds with
  | nil => rfl
  | cons d ds => simp only [this, cond_true]

theorem wpE_ok {k : Nat} : ∀ (c : Code), tmOk n c = true → ∀ (Q : Pst) (tm : List AV) (df : List ADef) (h : AH), tm.length = n → h.WF → wpE P rnd k c Q (envOf tm) df h →
    ∃ T e tm' df' h', (∀ T', codeA P rnd (invTp P) k c ⟨tm, df, h.tape (T ++ T')⟩ = some (e, ⟨tm', df', h'.tape T'⟩)) ∧ tm'.length = n ∧ h'.WF ∧ Q e (envOf tm') df' h' := by
  intro c
  induction c with
  | skip => intro _ Q tm df h hl wf hw; exact ⟨[], _, tm, df, h, fun T' => rfl, hl, wf, hw⟩
  | label l => intro _ Q tm df h hl wf hw; exact ⟨[], _, tm, df, h, fun T' => rfl, hl, wf, hw⟩
  | exit id => intro _ Q tm df h hl wf hw; exact ⟨[], _, tm, df, h, fun T' => rfl, hl, wf, hw⟩
  | ret => intro _ Q tm df h hl wf hw; exact ⟨[], _, tm, df, h, fun T' => rfl, hl, wf, hw⟩
  | goto l => intro _ Q tm df h hl wf hw; exact hw.elim
  | scope c => intro _ Q tm df h hl wf hw; exact hw.elim
  | refuse why => intro _ Q tm df h hl wf hw; exact hw.elim
  | rangeFunc f ps a b _ _ => intro _ Q tm df h hl wf hw; exact hw.elim
  | region id ops draw =>
    intro ht Q tm df h hl wf hw
    simp only [tmOk] at ht
    cases draw with
    | true =>
      simp only [wpE, if_true] at hw
      obtain ⟨T, tm', df', h', e1, e2, e3⟩ := wpD_ok ht hl wf hw
      exact ⟨T, .normal, tm', df', h', fun T' => by simp only [codeA, cond_true, e1], e2, e3⟩
    | false =>
      simp only [wpE, Bool.false_eq_true, if_false] at hw
      obtain ⟨T, tm', df', h', e1, e2, e3⟩ := wpOs_ok ht ops.toList _ tm df h (fun _ h => h) hl wf hw
      exact ⟨T, .normal, tm', df', h', fun T' => by simp only [codeA, cond_false, e1], e2, e3⟩
  | seq a b iha ihb =>
    intro ht Q tm df h hl wf hw
    simp only [tmOk, Bool.and_eq_true] at ht
    simp only [wpE] at hw
    obtain ⟨T1, e, tm1, df1, h1, e1, e2, wf1, e3⟩ := iha ht.1 _ tm df h hl wf hw
    cases e with
    | normal =>
      obtain ⟨T2, e', tm2, df2, h2, e4, e5, wf2, e6⟩ := ihb ht.2 Q tm1 df1 h1 e2 wf1 e3
      exact ⟨T1 ++ T2, e', tm2, df2, h2, fun T' => by simp only [codeA, List.append_assoc, e1, e4], e5, wf2, e6⟩
    | exit i => exact ⟨T1, _, tm1, df1, h1, fun T' => by simp only [codeA, e1], e2, wf1, e3⟩
    | ret => exact ⟨T1, _, tm1, df1, h1, fun T' => by simp only [codeA, e1], e2, wf1, e3⟩
  | cond c a b iha ihb =>
    intro ht Q tm df h hl wf hw
    simp only [tmOk, Bool.and_eq_true] at ht
    simp only [wpE, evalE_eq, onCond] at hw
    split at hw
    · rename_i t hc
      cases t with
      | true =>
        obtain ⟨T, e', tm2, df2, h2, e4, e5, e6⟩ := iha ht.1 Q tm df h hl wf (hw.1 rfl)
        exact ⟨T, e', tm2, df2, h2, fun T' => by simp only [codeA, hc, e4], e5, e6⟩
      | false =>
        obtain ⟨T, e', tm2, df2, h2, e4, e5, e6⟩ := ihb ht.2 Q tm df h hl wf (hw.2 rfl)
        exact ⟨T, e', tm2, df2, h2, fun T' => by simp only [codeA, hc, e4], e5, e6⟩
    · exact hw.elim
  | block id c ih =>
    intro ht Q tm df h hl wf hw
    simp only [tmOk] at ht
    simp only [wpE] at hw
    obtain ⟨T, e, tm1, df1, h1, e1, e2, wf1, e3⟩ := ih ht _ tm df h hl wf hw
    cases e with
    | normal => exact ⟨T, _, tm1, df1, h1, fun T' => by simp only [codeA, e1], e2, wf1, e3⟩
    | ret => exact ⟨T, _, tm1, df1, h1, fun T' => by simp only [codeA, e1], e2, wf1, e3⟩
    | exit i =>
      simp only [inE] at e3
      by_cases hi : i = id
      · rw [if_pos hi] at e3
        exact ⟨T, .normal, tm1, df1, h1, fun T' => by simp [codeA, e1, hi], e2, wf1, e3⟩
      · rw [if_neg hi] at e3
        exact ⟨T, .exit i, tm1, df1, h1, fun T' => by simp [codeA, e1, beq_false_of_ne hi], e2, wf1, e3⟩
  | loop c ih =>
    intro ht Q tm df h hl wf hw
    simp only [tmOk] at ht
    simp only [wpE] at hw
    have key : ∀ (m : Nat) (tm : List AV) (df : List ADef) (h : AH), tm.length = n → h.WF → loopW m (wpE P rnd k c) Q (envOf tm) df h →
        ∃ T e tm' df' h', (∀ T', loopA m (fun s => codeA P rnd (invTp P) k c s) ⟨tm, df, h.tape (T ++ T')⟩ = some (e, ⟨tm', df', h'.tape T'⟩)) ∧ tm'.length = n ∧ h'.WF ∧ Q e (envOf tm') df' h' := by
      intro m
      induction m with
      | zero => intro tm df h _ _ hw; exact hw.elim
      | succ m ihm =>
        intro tm df h hl wf hw
        obtain ⟨T1, e, tm1, df1, h1, e1, e2, wf1, e3⟩ := ih ht _ tm df h hl wf hw
        cases e with
        | normal =>
          obtain ⟨T2, e', tm2, df2, h2, e4, e5, wf2, e6⟩ := ihm tm1 df1 h1 e2 wf1 e3
          exact ⟨T1 ++ T2, e', tm2, df2, h2, fun T' => by simp only [loopA, List.append_assoc, e1, e4], e5, wf2, e6⟩
        | exit i => exact ⟨T1, _, tm1, df1, h1, fun T' => by simp only [loopA, e1], e2, wf1, e3⟩
        | ret => exact ⟨T1, _, tm1, df1, h1, fun T' => by simp only [loopA, e1], e2, wf1, e3⟩
    obtain ⟨T, e, tm1, df1, h1, e1, e2, e3⟩ := key k tm df h hl wf hw
    exact ⟨T, e, tm1, df1, h1, fun T' => by simp only [codeA]; exact e1 T', e2, e3⟩
end
end Go.Ai
