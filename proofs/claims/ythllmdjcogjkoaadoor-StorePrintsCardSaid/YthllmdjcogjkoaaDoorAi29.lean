/- The same machine with its temporaries in a tree: for the kernel, which runs it faster. What it answers, the machine answers. -/
import Derived.Test.YthllmdjcogjkoaaDoorAi28
namespace Go.Ai
set_option linter.unusedSimpArgs false
set_option linter.unusedVariables false

inductive Tv where
  | e
  | n (l : Tv) (v : Option AV) (r : Tv)
def Tv.get : Tv → Nat → Option AV
  | .e, _ => none
  | .n l v r, k => match k with
    | 0 => v
    | k + 1 => bif k % 2 == 0 then l.get (k / 2) else r.get (k / 2)
def Tv.put : Nat → Tv → Nat → Option AV → Tv
  | 0, t, _, _ => t
  | f + 1, t, k, o =>
    match t, k with
    | .e, 0 => .n .e o .e
    | .n l _ r, 0 => .n l o r
    | .e, k + 1 => bif k % 2 == 0 then .n (Tv.put f .e (k / 2) o) none .e else .n .e none (Tv.put f .e (k / 2) o)
    | .n l v r, k + 1 => bif k % 2 == 0 then .n (Tv.put f l (k / 2) o) v r else .n l v (Tv.put f r (k / 2) o)
theorem Tv.get_put : ∀ (f : Nat) (t : Tv) (k : Nat) (o : Option AV) (j : Nat), k < f → (Tv.put f t k o).get j = if j = k then o else t.get j := by
  intro f
  induction f with
  | zero => intro t k o j h; omega
  | succ f ih =>
    intro t k o j h
    cases t with
    | e =>
      cases k with
      | zero => cases j <;> simp [Tv.put, Tv.get]
      | succ k =>
        cases hk : (k % 2 == 0) <;> cases j with
        | zero => simp [Tv.put, Tv.get, hk]
        | succ j =>
          simp only [Tv.put, hk, cond_true, cond_false, Tv.get]
          cases hj : (j % 2 == 0) <;> simp only [cond_true, cond_false, Tv.get]
          all_goals first
            | (rw [ih _ _ _ _ (by omega)]; simp only [beq_iff_eq, beq_eq_false_iff_ne] at hk hj; by_cases hjk : j = k
               · subst hjk; simp
               · have : ¬ (j / 2 = k / 2) := by omega
                 rw [if_neg this, if_neg (by omega)]; rfl)
            | (simp only [beq_iff_eq, beq_eq_false_iff_ne] at hk hj; rw [if_neg (by omega)])
    | n l v r =>
      cases k with
      | zero => cases j <;> simp [Tv.put, Tv.get]
      | succ k =>
        cases hk : (k % 2 == 0) <;> cases j with
        | zero => simp [Tv.put, Tv.get, hk]
        | succ j =>
          simp only [Tv.put, hk, cond_true, cond_false, Tv.get]
          cases hj : (j % 2 == 0) <;> simp only [cond_true, cond_false]
          all_goals first
            | (rw [ih _ _ _ _ (by omega)]; simp only [beq_iff_eq, beq_eq_false_iff_ne] at hk hj; by_cases hjk : j = k
               · subst hjk; simp
               · have : ¬ (j / 2 = k / 2) := by omega
                 rw [if_neg this, if_neg (by omega)])
            | (simp only [beq_iff_eq, beq_eq_false_iff_ne] at hk hj; rw [if_neg (by omega)])

structure StF where
  tm : Tv
  n : Nat
  df : List ADef
  h : AH
/-- The tree says what the list says. -/
structure Sim (s' : StF) (s : St) : Prop where
  len : s.tm.length = s'.n
  get : ∀ i, (s'.tm.get i).getD undefA = s.tm.getD i undefA
  df : s'.df = s.df
  h : s'.h = s.h

def evalF (s : StF) : Operand → Option AV
  | .tmp t => some ((s.tm.get t).getD undefA)
  | .const v => ofVal 4 v
  | .global _ => none
  | .func f => some (.func f [] [])
theorem Sim.eval {s' : StF} {s : St} (S : Sim s' s) : evalF s' = evalA s.tm := by
  funext x; cases x <;> first | rfl | (simp only [evalF, evalA, S.get])
theorem Sim.look {s' : StF} {s : St} (S : Sim s' s) (d : Nat) : s.tm[d]? = bif decide (d < s'.n) then some ((s'.tm.get d).getD undefA) else none := by
  rw [← S.len]
  by_cases h : d < s.tm.length
  · rw [decide_eq_true h, cond_true, S.get, List.getD_eq_getElem?_getD, List.getElem?_eq_getElem h]; rfl
  · rw [decide_eq_false h, cond_false, List.getElem?_eq_none (by omega)]
def wantedF (ops : Array Oper) (o : Oper) (s : StF) : Option Bool :=
  match o.guard with
  | none => some true
  | some (j, want) =>
    match ops[j]? with
    | some g => match g.dst with
      | some d => match (bif decide (d < s.n) then some ((s.tm.get d).getD undefA) else none) with
        | some (.bool b) => some (b == want)
        | some (.tuple _) => some false
        | _ => none
      | none => some false
    | none => some false
theorem Sim.wanted {s' : StF} {s : St} (S : Sim s' s) (ops : Array Oper) (o : Oper) : wantedF ops o s' = wantedA ops o s.tm := by
  unfold wantedF wantedA
  rcases o.guard with _ | ⟨j, want⟩
  · rfl
  · dsimp only
    rcases ops[j]? with _ | g
    · rfl
    · dsimp only
      rcases g.dst with _ | d
      · rfl
      · dsimp only
        rw [S.look]
        rcases (bif decide (d < s'.n) then some ((s'.tm.get d).getD undefA) else none) with _ | v
        · rfl
        · cases v <;> rfl
def putF (s : StF) (dst : Option Tmp) (v : AV) : Tv :=
  match dst with
  | some d => bif decide (d < s.n) then Tv.put (d + 1) s.tm d (some v) else s.tm
  | none => s.tm
theorem Sim.put {s' : StF} {s : St} (S : Sim s' s) (dst : Option Tmp) (v : AV) {df : List ADef} {h : AH} : Sim { s' with tm := putF s' dst v, df := df, h := h } { tm := putA s.tm dst v, df := df, h := h } := by
  cases dst with
  | none => exact ⟨S.len, S.get, rfl, rfl⟩
  | some d =>
    refine ⟨by simp [putA, S.len], fun i => ?_, rfl, rfl⟩
    simp only [putF, putA, ← S.len]
    by_cases hd : d < s.tm.length
    · rw [decide_eq_true hd, cond_true, Tv.get_put _ _ _ _ _ (Nat.lt_succ_self d), List.getD_eq_getElem?_getD, List.getElem?_set]
      by_cases e : i = d
      · subst e; simp [hd]
      · rw [if_neg e, if_neg (fun h => e h.symm), S.get, List.getD_eq_getElem?_getD]
    · rw [decide_eq_false hd, cond_false, S.get, List.set_eq_of_length_le (Nat.le_of_not_lt hd)]

section
variable (P : Program)
def execF (inv : Inv) (s : StF) (op : Op) (h : AH) : Option (AV × AH) :=
  match op with
  | .call { callee := .value f, args, argTypes := _ } => match evalF s f, mapOpt (evalF s) args.toList with
    | some f, some vs => callA inv f vs h
    | _, _ => none
  | op => opA P (evalF s) op h
def stepF (rnd : Option Nat) (inv : Inv) (ops : Array Oper) (o : Oper) (s : StF) : Option StF :=
  match wantedF ops o s with
  | none => none
  | some false => some { s with tm := putF s o.dst undefA }
  | some true =>
    match o.op with
    | .defer { callee := .value f, args, argTypes := _ } => bif rnd.isSome then none else
      match evalF s f, mapOpt (evalF s) args.toList with
      | some (.func g xs ys), some vs => some { s with tm := putF s o.dst undefA, df := .call g (xs ++ vs ++ ys) :: s.df }
      | _, _ => none
    | op => match execF P inv s op s.h with
      | some (v, h) => some { s with tm := putF s o.dst v, h := h }
      | none => none
def opsF (rnd : Option Nat) (inv : Inv) (ops : Array Oper) : List Oper → StF → Option StF
  | [], s => some s
  | o :: os, s => match stepF P rnd inv ops o s with
    | some s => opsF rnd inv ops os s
    | none => none
def opsDF (inv : Inv) (ops : Array Oper) : Nat → List Oper → StF → Option (List Info × List (Nat × List Nat) × StF)
  | _, [], s => some ([], [], s)
  | i, o :: os, s => match stepF P (some 0) inv ops o { s with h := { s.h with pb := s.h.n, ws := [] } } with
    | some s' => match opsDF inv ops (i + 1) os { s' with h := { s'.h with pb := s.h.pb, ws := s'.h.ws.filter (fun id => decide (id < s.h.pb)) ++ s.h.ws } } with
      | some (ns, ds, s'') => some (⟨s.h.n, s'.h.n, readsA (evalF s) o.op⟩ :: ns, match s'.h.ws with | [] => ds | ws => (i, ws) :: ds, s'')
      | none => none
    | none => none
def regionDF (inv : Inv) (ops : Array Oper) (s : StF) : Option StF :=
  match opsDF P inv ops 0 ops.toList s with
  | some (_, [], s) => some s
  | some (ns, ds, s) => bif dirtyOk ops (Region.before ops) ns ds then some s else none
  | none => none
def loopF : Nat → (StF → Option (Ex × StF)) → StF → Option (Ex × StF)
  | 0, _, _ => none
  | k + 1, f, s => match f s with
    | some (.normal, s) => loopF k f s
    | r => r
/-- The list. -/
def listF (s : StF) : List AV := (List.range s.n).map fun i => (s.tm.get i).getD undefA
def rangeF (inv : Inv) (f : Operand) (params : List Tmp) (assign body : Code) (s : StF) : Option (Ex × StF) :=
  match rangeA none inv f params assign body { tm := listF s, df := s.df, h := s.h } with
  | some (e, t) => some (e, { s with df := t.df, h := t.h })
  | none => none
def codeF (inv : Inv) (k : Nat) : Code → StF → Option (Ex × StF)
  | .skip, s => some (.normal, s)
  | .label _, s => some (.normal, s)
  | .region _ ops draw, s => match (bif draw then regionDF P inv ops s else opsF P none inv ops ops.toList s) with
    | some s => some (.normal, s)
    | none => none
  | .seq a b, s => match codeF inv k a s with
    | some (.normal, s) => codeF inv k b s
    | r => r
  | .cond c a b, s => match evalF s c with
    | some (.bool true) => codeF inv k a s
    | some (.bool false) => codeF inv k b s
    | _ => none
  | .block id c, s => match codeF inv k c s with
    | some (.exit i, s) => bif i == id then some (.normal, s) else some (.exit i, s)
    | r => r
  | .loop c, s => loopF k (fun s => codeF inv k c s) s
  | .rangeFunc f params assign body, s => rangeF inv f params.toList assign body s
  | .exit id, s => some (.exit id, s)
  | .ret, s => some (.ret, s)
  | _, _ => none
def argsF : Nat → List AV → Tv → Tv
  | _, [], t => t
  | i, a :: as, t => argsF (i + 1) as (Tv.put (i + 1) t i (some a))
def bodyF (inv : Inv) (k : Nat) (fn : Func) (args : List AV) (h : AH) : Option StF :=
  match fn.body with
  | some c => match codeF P inv k c { tm := argsF 0 args .e, n := args.length + (fn.ntmps - args.length), df := [], h := h } with
    | some (.normal, s) => some s
    | some (.ret, s) => some s
    | _ => none
  | none => none
def resultF (h : AH) (s : StF) : ResultVar → Option AV
  | .tmp t => some ((s.tm.get t).getD undefA)
  | .cell a t => loadA P h t ((s.tm.get a).getD undefA)
def resultsF (fn : Func) (h : AH) (s : StF) : Option AV :=
  match mapOpt (resultF P h s) fn.results.toList with
  | some [v] => some v
  | some vs => some (.tuple vs)
  | none => none
def deferredF (inv : Inv) (k : Nat) (f : FuncId) (args : List AV) (h : AH) : Option AH :=
  match P.funcs[f]? with
  | some fn => match bodyF P inv k fn args h with
    | some s => match s.df, resultsF P fn s.h s with
      | [], some _ => some s.h
      | _, _ => none
    | none => none
  | none => none
def leaveF (inv : Inv) (k : Nat) : List ADef → AH → Option AH
  | [], h => some h
  | .mark id :: ds, h => match h.get id with
    | some .dfr => leaveF inv k ds (h.set id .gone)
    | _ => none
  | .call f args :: ds, h => match deferredF P inv k f args h with
    | some h => leaveF inv k ds h
    | none => none
def callFnF (inv : Inv) (k : Nat) (f : FuncId) (args : List AV) (h : AH) : Option (AV × AH) :=
  match P.funcs[f]? with
  | some fn => match bodyF P inv k fn args h with
    | some s => match leaveF P inv k s.df s.h with
      | some h => match resultsF P fn h s with
        | some v => some (v, h)
        | none => none
      | none => none
    | none => none
  | none => none
variable (sig : Sig)
def runF : Nat → Inv
  | 0 => fun _ _ _ => none
  | k + 1 => fun t args h =>
    let inv : Inv := fun t args h => match t with
      | .fn f => match sig f with
        | some g => g args h
        | none => runF k (.fn f) args h
      | .yield l => runA P sig k (.yield l) args h
    match t with
    | .fn f => callFnF P inv k f args h
    | .yield l => runA P sig (k + 1) (.yield l) args h
end

section
variable {P : Program} {i1 i2 : Inv}
def Below' (i1 i2 : Inv) : Prop := ∀ t args h r, i1 t args h = some r → i2 t args h = some r
theorem callA_mono (I : Below' i1 i2) {f : AV} {vs : List AV} {h : AH} {r : AV × AH} (e : callA i1 f vs h = some r) : callA i2 f vs h = some r := by
  unfold callA at e ⊢
  split at e
  · exact I _ _ _ _ e
  · exact I _ _ _ _ e
  · cases e
theorem exec_sim (I : Below' i1 i2) {s' : StF} {s : St} (S : Sim s' s) {op : Op} {h : AH} {r : AV × AH} (e : execF P i1 s' op h = some r) : execA P i2 s.tm op h = some r := by
  unfold execF at e
  unfold execA
  rw [S.eval] at e
  split at e
  · split at e
    · rename_i h1 h2
      simp only [h1, h2]; exact callA_mono I e
    · cases e
  · rename_i hne
    split
    · rename_i f args ats; exact absurd rfl (hne f args ats)
    · exact e
theorem step_sim (I : Below' i1 i2) {rnd : Option Nat} {ops : Array Oper} {o : Oper} {s' t' : StF} {s : St} (S : Sim s' s) (e : stepF P rnd i1 ops o s' = some t') : ∃ t, stepA P rnd i2 ops o s = some t ∧ Sim t' t := by
  unfold stepF at e
  unfold stepA
  rw [S.wanted] at e
  generalize wantedA ops o s.tm = wn at e ⊢
  rcases wn with _ | _ | _
  · cases e
  · injection e with e; subst e
    refine ⟨_, rfl, ?_⟩
    have := S.put o.dst undefA (df := s'.df) (h := s'.h)
    rw [S.df, S.h] at this ⊢; exact this
  · dsimp only at e ⊢
    split at e
    · rename_i f args ats hop
      rw [S.eval] at e
      cases hr : rnd.isSome with
      | true => rw [hr] at e; cases e
      | false =>
        rw [hr] at e; simp only [cond_false] at e ⊢
        split at e
        · rename_i g xs ys vs h1 h2
          injection e with e; subst e
          simp only [hop, hr, h1, h2, cond_false]
          refine ⟨_, rfl, ?_⟩
          have := S.put o.dst undefA (df := .call g (xs ++ vs ++ ys) :: s'.df) (h := s'.h)
          rw [S.df, S.h] at this ⊢; exact this
        · cases e
    · rename_i hne
      split at e
      · rename_i v h hx
        injection e with e; subst e
        have hx2 := exec_sim (P := P) I S hx
        rw [S.h] at hx2
        split
        · rename_i f args ats hop; exact absurd hop (hne f args ats)
        · rw [hx2]
          refine ⟨_, rfl, ?_⟩
          have := S.put o.dst v (df := s'.df) (h := h)
          rw [S.df] at this ⊢; exact this
      · cases e
theorem ops_sim (I : Below' i1 i2) {rnd : Option Nat} {ops : Array Oper} : ∀ {os : List Oper} {s' t' : StF} {s : St}, Sim s' s → opsF P rnd i1 ops os s' = some t' → ∃ t, opsA P rnd i2 ops os s = some t ∧ Sim t' t
  | [], s', t', s, S, e => by injection e with e; subst e; exact ⟨s, rfl, S⟩
  | o :: os, s', t', s, S, e => by
    unfold opsF at e
    split at e
    · rename_i s1 h1
      obtain ⟨t1, h2, S1⟩ := step_sim (P := P) I S h1
      obtain ⟨t, h3, S2⟩ := ops_sim I S1 e
      exact ⟨t, by unfold opsA; rw [h2]; exact h3, S2⟩
    · cases e
theorem Sim.heap {s' : StF} {s : St} (S : Sim s' s) (h : AH) : Sim { s' with h := h } { s with h := h } := ⟨S.len, S.get, S.df, rfl⟩
theorem opsD_sim (I : Below' i1 i2) {ops : Array Oper} : ∀ {i : Nat} {os : List Oper} {s' t' : StF} {s : St} {ns : List Info} {ds : List (Nat × List Nat)}, Sim s' s → opsDF P i1 ops i os s' = some (ns, ds, t') → ∃ t, opsD P i2 ops i os s = some (ns, ds, t) ∧ Sim t' t
  | i, [], s', t', s, ns, ds, S, e => by injection e with e; injection e with e1 e2; injection e2 with e2 e3; subst e1; subst e2; subst e3; exact ⟨s, rfl, S⟩
  | i, o :: os, s', t', s, ns, ds, S, e => by
    unfold opsDF at e
    split at e
    · rename_i s1 h1
      have S0 := S.heap { s'.h with pb := s'.h.n, ws := [] }
      obtain ⟨t1, h2, S1⟩ := step_sim (P := P) I S0 h1
      split at e
      · rename_i ns2 ds2 s2 h3
        obtain ⟨t, h4, S2⟩ := opsD_sim I (S1.heap { s1.h with pb := s'.h.pb, ws := s1.h.ws.filter (fun id => decide (id < s'.h.pb)) ++ s'.h.ws }) h3
        injection e with e; injection e with e1 e2; injection e2 with e2 e3; subst e1; subst e2; subst e3
        refine ⟨t, ?_, S2⟩
        unfold opsD
        rw [S.h] at h2 h4
        rw [h2]
        dsimp only
        rw [← S1.h]
        rw [h4, S.eval, S.h]
        dsimp only
        cases s1.h.ws <;> rfl
      · cases e
    · cases e
theorem regionD_sim (I : Below' i1 i2) {ops : Array Oper} {s' t' : StF} {s : St} (S : Sim s' s) (e : regionDF P i1 ops s' = some t') : ∃ t, regionD P i2 ops s = some t ∧ Sim t' t := by
  unfold regionDF at e
  unfold regionD
  split at e
  · rename_i ns s1 h1
    injection e with e; subst e
    obtain ⟨t, h2, S1⟩ := opsD_sim (P := P) I S h1
    rw [h2]; exact ⟨t, rfl, S1⟩
  · rename_i ns ds s1 hne h1
    obtain ⟨t, h2, S1⟩ := opsD_sim (P := P) I S h1
    rw [h2]
    cases ds with
    | nil => exact absurd rfl hne
    | cons d ds =>
      dsimp only
      cases hd : dirtyOk ops (Region.before ops) ns (d :: ds) with
      | false => rw [hd] at e; cases e
      | true => rw [hd] at e; injection e with e; subst e; exact ⟨t, rfl, S1⟩
  · cases e
theorem loop_sim {f' : StF → Option (Ex × StF)} {f : St → Option (Ex × St)} (H : ∀ {s' t' : StF} {s : St} {x : Ex}, Sim s' s → f' s' = some (x, t') → ∃ t, f s = some (x, t) ∧ Sim t' t) :
    ∀ {k : Nat} {s' t' : StF} {s : St} {x : Ex}, Sim s' s → loopF k f' s' = some (x, t') → ∃ t, loopA k f s = some (x, t) ∧ Sim t' t
  | 0, s', t', s, x, S, e => by cases e
  | k + 1, s', t', s, x, S, e => by
    unfold loopF at e
    unfold loopA
    split at e
    · rename_i s1 h1
      obtain ⟨t1, h2, S1⟩ := H S h1
      rw [h2]; exact loop_sim H S1 e
    · rename_i hne
      obtain ⟨t, h2, S1⟩ := H S e
      rw [h2]
      cases x with
      | normal => exact absurd e (hne t')
      | exit id => exact ⟨t, rfl, S1⟩
      | ret => exact ⟨t, rfl, S1⟩
theorem listF_eq {s' : StF} {s : St} (S : Sim s' s) : listF s' = s.tm := by
  unfold listF
  apply List.ext_getElem?
  intro i
  rw [S.look]
  by_cases h : i < s'.n
  · simp [h]
  · simp [h]
theorem range_mono (I : Below' i1 i2) {rnd : Option Nat} {f : Operand} {ps : List Tmp} {a b : Code} {s : St} {r : Ex × St} (e : rangeA rnd i1 f ps a b s = some r) : rangeA rnd i2 f ps a b s = some r ∧ r.2.tm = s.tm := by
  unfold rangeA at e ⊢
  split at e
  · split at e
    · split at e
      · rename_i hv
        rw [I _ _ _ _ hv]
        dsimp only
        split at e
        · rename_i st pend tm ps2 a2 b2 hg
          cases hb : isBusy st with
          | true => rw [hb] at e; cases e
          | false =>
            rw [hb] at e
            simp only [cond_false] at e
            refine ⟨by simp only [hg, hb, cond_false]; exact e, ?_⟩
            unfold tailA at e
            split at e
            · injection e with e; subst e; rfl
            · injection e with e; subst e; rfl
            · injection e with e; subst e; rfl
            · cases e
        · cases e
      · cases e
    · cases e
  · cases e
theorem code_sim (I : Below' i1 i2) {k : Nat} : ∀ {c : Code} {s' t' : StF} {s : St} {x : Ex}, Sim s' s → codeF P i1 k c s' = some (x, t') → ∃ t, codeA P none i2 k c s = some (x, t) ∧ Sim t' t := by
  intro c
  induction c with
  | skip => intro s' t' s x S e; injection e with e; injection e with e1 e2; subst e1; subst e2; exact ⟨s, rfl, S⟩
  | label _ => intro s' t' s x S e; injection e with e; injection e with e1 e2; subst e1; subst e2; exact ⟨s, rfl, S⟩
  | exit _ => intro s' t' s x S e; injection e with e; injection e with e1 e2; subst e1; subst e2; exact ⟨s, rfl, S⟩
  | ret => intro s' t' s x S e; injection e with e; injection e with e1 e2; subst e1; subst e2; exact ⟨s, rfl, S⟩
  | region n ops draw =>
    intro s' t' s x S e
    simp only [codeF] at e
    simp only [codeA]
    cases draw with
    | true =>
      simp only [cond_true] at e ⊢
      split at e
      · rename_i s1 h1
        injection e with e; injection e with e1 e2; subst e1; subst e2
        obtain ⟨t, h2, S1⟩ := regionD_sim (P := P) I S h1
        rw [h2]; exact ⟨t, rfl, S1⟩
      · cases e
    | false =>
      simp only [cond_false] at e ⊢
      split at e
      · rename_i s1 h1
        injection e with e; injection e with e1 e2; subst e1; subst e2
        obtain ⟨t, h2, S1⟩ := ops_sim (P := P) I S h1
        rw [h2]; exact ⟨t, rfl, S1⟩
      · cases e
  | seq a b iha ihb =>
    intro s' t' s x S e
    simp only [codeF] at e
    simp only [codeA]
    split at e
    · rename_i s1 h1
      obtain ⟨t1, h2, S1⟩ := iha S h1
      rw [h2]; exact ihb S1 e
    · rename_i hne
      obtain ⟨t, h2, S1⟩ := iha S e
      rw [h2]
      cases x with
      | normal => exact absurd e (hne t')
      | exit id => exact ⟨t, rfl, S1⟩
      | ret => exact ⟨t, rfl, S1⟩
  | cond c a b iha ihb =>
    intro s' t' s x S e
    simp only [codeF, S.eval] at e
    simp only [codeA]
    split at e
    · rename_i h; rw [h]; exact iha S e
    · rename_i h; rw [h]; exact ihb S e
    · cases e
  | block id c ih =>
    intro s' t' s x S e
    simp only [codeF] at e
    simp only [codeA]
    split at e
    · rename_i i s1 h1
      obtain ⟨t1, h2, S1⟩ := ih S h1
      rw [h2]
      dsimp only
      cases hi : i == id with
      | true => rw [hi] at e; injection e with e; injection e with e1 e2; subst e1; subst e2; exact ⟨t1, rfl, S1⟩
      | false => rw [hi] at e; injection e with e; injection e with e1 e2; subst e1; subst e2; exact ⟨t1, rfl, S1⟩
    · rename_i hne
      obtain ⟨t, h2, S1⟩ := ih S e
      rw [h2]
      cases x with
      | normal => exact ⟨t, rfl, S1⟩
      | exit id => exact absurd e (hne id t')
      | ret => exact ⟨t, rfl, S1⟩
  | loop c ih =>
    intro s' t' s x S e
    simp only [codeF] at e
    simp only [codeA]
    exact loop_sim (fun S e => ih S e) S e
  | rangeFunc f ps a b _ _ =>
    intro s' t' s x S e
    simp only [codeF, rangeF] at e
    simp only [codeA]
    rw [listF_eq S, S.df, S.h] at e
    split at e
    · rename_i x1 t1 h1
      injection e with e; injection e with e1 e2; subst e1; subst e2
      obtain ⟨h2, h3⟩ := range_mono I h1
      exact ⟨t1, h2, ⟨by rw [h3]; exact S.len, fun i => by rw [h3]; exact S.get i, rfl, rfl⟩⟩
    · cases e
  | _ => intro s' t' s x S e; cases e
theorem args_get : ∀ {as : List AV} {i : Nat} {t : Tv} (j : Nat), (argsF i as t).get j = if i ≤ j ∧ j < i + as.length then as[j - i]? else t.get j
  | [], i, t, j => by simp only [argsF, List.length_nil]; rw [if_neg (by omega)]
  | a :: as, i, t, j => by
    simp only [argsF]
    rw [args_get, Tv.get_put _ _ _ _ _ (Nat.lt_succ_self i)]
    by_cases h : i + 1 ≤ j ∧ j < i + 1 + as.length
    · rw [if_pos h, if_pos (by simp only [List.length_cons]; omega)]
      obtain ⟨m, hm⟩ : ∃ m, j - i = m + 1 := ⟨j - i - 1, by omega⟩
      rw [hm, List.getElem?_cons_succ]; congr 1; omega
    · rw [if_neg h]
      by_cases e : j = i
      · subst e; rw [if_pos rfl, if_pos (by simp only [List.length_cons]; omega)]; simp
      · rw [if_neg e, if_neg (by simp only [List.length_cons]; omega)]
theorem Sim.start (args : List AV) (n : Nat) (h : AH) : Sim { tm := argsF 0 args .e, n := args.length + (n - args.length), df := [], h := h } { tm := args ++ List.replicate (n - args.length) undefA, df := [], h := h } where
  len := by simp
  get := fun i => by
    rw [args_get]
    by_cases hi : i < args.length
    · rw [if_pos (by omega), List.getD_eq_getElem?_getD, List.getElem?_append_left hi]; simp
    · rw [if_neg (by omega), List.getD_eq_getElem?_getD, List.getElem?_append_right (by omega), List.getElem?_replicate]
      split <;> rfl
  df := rfl
  h := rfl
theorem body_sim (I : Below' i1 i2) {k : Nat} {fn : Func} {args : List AV} {h : AH} {t' : StF} (e : bodyF P i1 k fn args h = some t') : ∃ t, bodyA P i2 k fn args h = some t ∧ Sim t' t := by
  unfold bodyF at e
  unfold bodyA
  split at e
  · rename_i c hc
    rw [hc]
    dsimp only
    split at e
    · rename_i s1 h1
      injection e with e; subst e
      obtain ⟨t, h2, S⟩ := code_sim (P := P) I (Sim.start args fn.ntmps h) h1
      rw [h2]; exact ⟨t, rfl, S⟩
    · rename_i s1 h1
      injection e with e; subst e
      obtain ⟨t, h2, S⟩ := code_sim (P := P) I (Sim.start args fn.ntmps h) h1
      rw [h2]; exact ⟨t, rfl, S⟩
    · cases e
  · cases e
theorem results_sim {fn : Func} {h : AH} {s' : StF} {s : St} (S : Sim s' s) : resultsF P fn h s' = resultsA P fn { s with h := h } := by
  have : resultF P h s' = resultA P h s.tm := by
    funext r; cases r with
    | tmp t => simp only [resultF, resultA, S.get]
    | cell a t => simp only [resultF, resultA, S.get]
  unfold resultsF resultsA
  rw [this]
  dsimp only
  rcases mapOpt (resultA P h s.tm) fn.results.toList with _ | l
  · rfl
  · rcases l with _ | ⟨v, _ | ⟨w, l⟩⟩ <;> rfl
theorem deferred_sim (I : Below' i1 i2) {k : Nat} {f : FuncId} {args : List AV} {h h' : AH} (e : deferredF P i1 k f args h = some h') : deferredA P i2 k f args h = some h' := by
  unfold deferredF at e
  unfold deferredA
  split at e
  · rename_i fn hf
    rw [hf]; dsimp only
    split at e
    · rename_i s1 h1
      obtain ⟨t, h2, S⟩ := body_sim (P := P) I h1
      rw [h2]; dsimp only
      rw [results_sim S, S.h, S.df] at e
      exact e
    · cases e
  · cases e
theorem leave_sim (I : Below' i1 i2) {k : Nat} : ∀ {ds : List ADef} {h h' : AH}, leaveF P i1 k ds h = some h' → leaveA P i2 k ds h = some h'
  | [], h, h', e => e
  | .mark id :: ds, h, h', e => by
    unfold leaveF at e
    unfold leaveA
    split at e
    · rename_i hg; rw [hg]; exact leave_sim I e
    · cases e
  | .call f args :: ds, h, h', e => by
    unfold leaveF at e
    unfold leaveA
    split at e
    · rename_i h1 hd
      rw [deferred_sim I hd]; exact leave_sim I e
    · cases e
theorem callFn_sim (I : Below' i1 i2) {k : Nat} {f : FuncId} {args : List AV} {h : AH} {r : AV × AH} (e : callFnF P i1 k f args h = some r) : callFnA P i2 k f args h = some r := by
  unfold callFnF at e
  unfold callFnA
  split at e
  · rename_i fn hf
    rw [hf]; dsimp only
    split at e
    · rename_i s1 h1
      obtain ⟨t, h2, S⟩ := body_sim (P := P) I h1
      rw [h2]; dsimp only
      rw [S.df, S.h] at e
      split at e
      · rename_i h3 hl
        rw [leave_sim I hl]; dsimp only
        rw [results_sim S] at e
        exact e
      · cases e
    · cases e
  · cases e
theorem runF_ok {sig : Sig} : ∀ {k : Nat} {t : Tg} {args : List AV} {h : AH} {r : AV × AH}, runF P sig k t args h = some r → runA P sig k t args h = some r
  | 0, t, args, h, r, e => by cases e
  | k + 1, .yield l, args, h, r, e => e
  | k + 1, .fn f, args, h, r, e => by
    unfold runF at e
    unfold runA
    refine callFn_sim (P := P) (fun t args h r e => ?_) e
    cases t with
    | yield l => exact e
    | fn g =>
      dsimp only at e ⊢
      split at e
      · rename_i hs; rw [hs]; exact e
      · rename_i hs; rw [hs]; exact runF_ok e
end
end Go.Ai
