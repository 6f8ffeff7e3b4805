/- One step of a region; a region that keeps its order. -/
import Derived.Test.YthllmdjcogjkoaaDoorAi12
namespace Go.Ai
set_option linter.unusedSimpArgs false
set_option linter.unusedVariables false

section
variable {P : Program} {B : Nat} {w0 w w1 w2 : World} {M M1 M2 : Mp} {X Y1 Y2 : Nat → Option AO} {h h1 h2 : AH}

/-- An operation is come to. -/
def Taken (ro : Option Nat) (n : Nat) (P : Program) (ops : Array Oper) (o : Oper) (a : Act) (w : World) (K : Act → World → Prop) (Q : Exit → Act → World → Prop) : Prop :=
  if Region.wanted o (yielded ops a.tmps) = true then o.wpIn (fen ro) n P a w K Q else (∀ f, o.about P w a.eval = some f → (fen ro).fn f) ∧ K (a.put o.dst undef) w

theorem only_ok {op : Op} {tm : List AV} {a : Act} (look : ∀ t, .tmp t ∈ op.operands → RV M (tm.getD t undefA) (a.tmps.getD t undef)) :
    ∀ x v, only op (evalA tm) x = some v → RV M v (a.eval x) := by
  intro x v e
  unfold only at e
  split at e
  · rename_i hx
    exact evalA_ok e fun t ht => look t (ht ▸ hx)
  · cases e
theorem look_operand {ops : Array Oper} {o : Oper} {t : Tmp} (h : .tmp t ∈ o.op.operands) : t ∈ o.looksAt ops :=
  List.mem_append_left _ (List.mem_filterMap.2 ⟨.tmp t, by simpa using h, rfl⟩)

theorem execA_call {inv : Inv} {tm : List AV} {f : Operand} {args : Array Operand} {ats : Array TypeId} :
    execA P inv tm (.call { callee := .value f, args := args, argTypes := ats }) h = match evalA tm f, mapOpt (evalA tm) args.toList with
    | some f, some vs => callA inv f vs h
    | _, _ => none := rfl
theorem execA_op {inv : Inv} {tm : List AV} {op : Op} (hc : ∀ f args ats, op ≠ .call { callee := .value f, args := args, argTypes := ats }) : execA P inv tm op h = opA P (evalA tm) op h := by
  unfold execA
  split
  · exact absurd rfl (hc _ _ _)
  · rfl
theorem stepA_def {rnd : Option Nat} {inv : Inv} {ops : Array Oper} {o : Oper} {s : St} (hd : ∀ c, o.op ≠ .defer c) (hw : wantedA ops o s.tm = some true) :
    stepA P rnd inv ops o s = match execA P inv s.tm o.op s.h with
      | some (v, h) => some { s with tm := putA s.tm o.dst v, h := h }
      | none => none := by
  unfold stepA
  rw [hw]
  simp only
  split
  · rename_i hh; exact absurd hh (hd _)
  · rfl

/-- What an operation that runs comes to. -/
theorem exec_ok {inv : Inv} (S : InvOk P inv) {o : Oper} {tm : List AV} {r : AV × AH} (e : execA P inv tm o.op h = some r) (hd : ∀ c, o.op ≠ .defer c) (wf : h.WF) :
    r.2.WF ∧ Ext h r.2 ∧ ∀ {n B : Nat} {w0 w : World} {M : Mp} {X : Nat → Option AO} {a : Act} {K : Act → World → Prop} {Q : Exit → Act → World → Prop} {ro : Option Nat},
      (∀ t, .tmp t ∈ o.op.operands → RV M (tm.getD t undefA) (a.tmps.getD t undef)) → Rel B w0 M X w → (∀ id, h.n ≤ id → id < r.2.n → M id = none) → (∀ id, id < h.n → X id = h.get id) →
      (∀ v' M' w', Stp B w0 M h r.2 (ovr r.2 X) M' w' → RV M' r.1 v' → K (a.put o.dst v') w') → o.wpIn (fen ro) n P a w K Q := by
  by_cases hc : ∃ f args ats, o.op = .call { callee := .value f, args := args, argTypes := ats }
  · obtain ⟨f, args, ats, hop⟩ := hc
    rw [hop, execA_call] at e
    split at e
    · rename_i fv vs hf hvs
      obtain ⟨g1, g2, g3⟩ := callA_ok S e wf
      refine ⟨g1, g2, ?_⟩
      intro n B w0 w M X a K Q ro look R hM agree k
      refine ⟨fun _ _ => trivial, ?_⟩
      rw [Oper.semAt_eq _ _ _ hd]
      unfold execOp
      rw [hop]
      have hf' : RV M fv (a.eval f) := evalA_ok hf fun t ht => look t (by rw [hop, ht]; simp [Op.operands, Call.operands])
      have hvs' : RVs M vs (args.map a.eval).toList := by
        have : ∀ {l : List Operand} {us : List AV}, (∀ t, .tmp t ∈ l → RV M (tm.getD t undefA) (a.tmps.getD t undef)) → mapOpt (evalA tm) l = some us → RVs M us (l.map a.eval) := by
          intro l
          induction l with
          | nil => intro us _ h; simp only [mapOpt, Option.some.injEq] at h; subst h; rfl
          | cons x l ih =>
            intro us hl h
            simp only [mapOpt] at h
            split at h
            · rename_i b bs hb hbs
              injection h with h; subst h
              exact .cons (evalA_ok hb fun t ht => hl t (by simp [ht])) (ih (fun t ht => hl t (by simp [ht])) hbs)
            · cases h
        have h2 := this (l := args.toList) (fun t ht => look t (by rw [hop]; simp [Op.operands, Call.operands]; right; simpa using ht)) hvs
        simpa using h2
      exact g3 hf' hvs' R hM agree k
    · cases e
  · have e' : opA P (only o.op (evalA tm)) o.op h = some r := by
      rw [execA_op (fun f args ats he => hc ⟨f, args, ats, he⟩)] at e
      rw [← opA_congr (only_eq o.op (evalA tm))]; exact e
    obtain ⟨g1, g2⟩ := opA_wf e' wf
    refine ⟨g1, g2, ?_⟩
    intro n B w0 w M X a K Q ro look R hM agree k
    refine ⟨fun _ _ => trivial, ?_⟩
    rw [Oper.semAt_eq _ _ _ hd]
    obtain ⟨_, _, M', w', v', h3, h4, h5⟩ := opA_ok (only_ok look) e' R wf hM agree
    rcases h5 with h5 | ⟨h5, rfl⟩
    · rw [h5, Oper.uponIn_value]; exact k _ _ _ h3 h4
    · rw [h5, Oper.uponIn_skip]; exact k _ _ _ h3 h4

theorem stepS {inv : Inv} (S : InvOk P inv) {rnd : Option Nat} {ops : Array Oper} {o : Oper} {s s' : St} (e : stepA P rnd inv ops o s = some s') (hd : ∀ c, o.op ≠ .defer c) (wf : s.h.WF) :
    s'.h.WF ∧ Ext s.h s'.h ∧ s'.df = s.df ∧ ∃ v, s'.tm = putA s.tm o.dst v ∧ ∀ {n B : Nat} {w0 w : World} {M : Mp} {X : Nat → Option AO} {a : Act} {K : Act → World → Prop} {Q : Exit → Act → World → Prop} {ro : Option Nat},
      (∀ t ∈ o.looksAt ops, RV M (s.tm.getD t undefA) (a.tmps.getD t undef)) → Rel B w0 M X w → (∀ id, s.h.n ≤ id → id < s'.h.n → M id = none) → (∀ id, id < s.h.n → X id = s.h.get id) →
      (∀ v' M' w', Stp B w0 M s.h s'.h (ovr s'.h X) M' w' → RV M' v v' → K (a.put o.dst v') w') → Taken ro n P ops o a w K Q := by
  cases hw : wantedA ops o s.tm with
  | none => simp [stepA, hw] at e
  | some b =>
    cases b with
    | false =>
      simp only [stepA, hw, Option.some.injEq] at e; subst e
      refine ⟨wf, .refl _, rfl, undefA, rfl, ?_⟩
      intro n B w0 w M X a K Q ro look R hM agree k
      unfold Taken
      rw [wantedA_ok hw look, if_neg (by simp)]
      exact ⟨fun _ _ => trivial, k _ _ _ (Stp.same R _ fun _ _ _ => by rw [ovr_same agree]) .undef⟩
    | true =>
      rw [stepA_def hd hw] at e
      split at e
      · rename_i v h' hx
        injection e with e; subst e
        obtain ⟨g1, g2, g3⟩ := exec_ok S hx hd wf
        refine ⟨g1, g2, rfl, v, rfl, ?_⟩
        intro n B w0 w M X a K Q ro look R hM agree k
        unfold Taken
        rw [wantedA_ok hw look, if_pos rfl]
        exact g3 (fun t ht => look t (look_operand ht)) R hM agree k
      · cases e

/-- .. an operation that writes nothing that was there. -/
theorem stepL {inv : Inv} {rnd : Option Nat} {ops : Array Oper} {o : Oper} {s s' : St} (e : stepA P rnd inv ops o s = some s') (hd : ∀ c, o.op ≠ .defer c) (wf : s.h.WF)
    {l : List Nat} (hl : wantedA ops o s.tm = some false ∨ lightA (evalA s.tm) o.op = some l) :
    (s'.h = s.h ∨ ∃ ob, s'.h = s.h.push ob) ∧ (pureOp o.op = true → s'.h = s.h) ∧ (wantedA ops o s.tm = some false → s'.h = s.h) ∧ s'.df = s.df ∧ ∃ v, s'.tm = putA s.tm o.dst v ∧ ∀ {n B : Nat} {w0 w : World} {M : Mp} {X : Nat → Option AO} {a : Act} {K : Act → World → Prop} {Q : Exit → Act → World → Prop} {ro : Option Nat},
      (∀ t ∈ o.looksAt ops, RV M (s.tm.getD t undefA) (a.tmps.getD t undef)) → Rel B w0 M X w → (∀ id, s.h.n ≤ id → id < s'.h.n → M id = none) →
      (wantedA ops o s.tm = some true → ∀ id, id ∈ l → id < s.h.n → X id = s.h.get id) →
      (∀ v' M' w', Stp B w0 M s.h s'.h (ovw s.h s'.h X) M' w' → RV M' v v' → K (a.put o.dst v') w') → Taken ro n P ops o a w K Q := by
  cases hw : wantedA ops o s.tm with
  | none => simp [stepA, hw] at e
  | some b =>
    cases b with
    | false =>
      simp only [stepA, hw, Option.some.injEq] at e; subst e
      refine ⟨.inl rfl, fun _ => rfl, fun _ => rfl, rfl, undefA, rfl, ?_⟩
      intro n B w0 w M X a K Q ro look R hM agree k
      unfold Taken
      rw [wantedA_ok hw look, if_neg (by simp)]
      exact ⟨fun _ _ => trivial, k _ _ _ (Stp.same R _ fun _ _ _ => by rw [ovw_same]) .undef⟩
    | true =>
      have hl : lightA (evalA s.tm) o.op = some l := by rcases hl with hl | hl; rw [hw] at hl; cases hl; exact hl
      rw [stepA_def hd hw] at e
      split at e
      · rename_i v h' hx
        injection e with e; subst e
        have e' : opA P (only o.op (evalA s.tm)) o.op s.h = some (v, h') := by
          rw [execA_op (fun f args ats he => by rw [he] at hl; simp [lightA, pureOp, readsA] at hl)] at hx
          rw [← opA_congr (only_eq o.op (evalA s.tm))]; exact hx
        have hl' : lightA (only o.op (evalA s.tm)) o.op = some l := by rw [← lightA_congr (only_eq o.op (evalA s.tm))]; exact hl
        obtain ⟨g1, g2⟩ := light_h e' hl'
        refine ⟨g1, g2, fun hh => by simp at hh, rfl, v, rfl, ?_⟩
        intro n B w0 w M X a K Q ro look R hM agree k
        unfold Taken
        rw [wantedA_ok hw look, if_pos rfl]
        refine ⟨fun _ _ => trivial, ?_⟩
        rw [Oper.semAt_eq _ _ _ hd]
        have hlt := light_lt e' hl' wf
        obtain ⟨sm, ⟨_, M', w', v', q1, q2, q3⟩, q4⟩ := lightOp_ok (P := P) (only_ok fun t ht => look t (look_operand ht)) e' hl' R hM fun id hid => agree rfl id hid (hlt id hid)
        rw [q4, run_asVal q3, Oper.uponIn_value]
        exact k _ _ _ q1 q2
      · cases e

/-! ### Deferred calls; an activation -/
def RD (M : Mp) : ADef → Deferred → Prop
  | .mark id, d => ∃ p, M id = some p ∧ d.target = .collected p.blk
  | .call f args, d => ∃ cap, d.target = .fn (.func f) cap ∧ RVs M args (d.args ++ cap).toList
def RDs (M : Mp) : List ADef → List Deferred → Prop
  | [], ds => ds = []
  | a :: as, ds => ∃ d rest, ds = d :: rest ∧ RD M a d ∧ RDs M as rest
theorem RD.mono {M M' : Mp} (h : M.le M') : ∀ {a : ADef} {d : Deferred}, RD M a d → RD M' a d
  | .mark _, _, ⟨p, hp, e⟩ => ⟨p, h.1 _ _ hp, e⟩
  | .call _ _, _, ⟨cap, e, hx⟩ => ⟨cap, e, RVs.mono h _ _ hx⟩
theorem RDs.mono {M M' : Mp} (h : M.le M') : ∀ {as : List ADef} {ds : List Deferred}, RDs M as ds → RDs M' as ds
  | [], _, e => e
  | _ :: _, _, ⟨d, rest, e, hd, hr⟩ => ⟨d, rest, e, hd.mono h, RDs.mono h hr⟩
structure RA (M : Mp) (s : St) (a : Act) : Prop where
  tm : RVs M s.tm a.tmps.toList
  df : RDs M s.df a.defers
theorem RA.mono {M M' : Mp} (h : M.le M') {s : St} {a : Act} (r : RA M s a) : RA M' s a := ⟨r.tm.mono h, r.df.mono h⟩
theorem RVs.look {as : List AV} {vs : Array Value} (h : RVs M as vs.toList) (t : Nat) : RV M (as.getD t undefA) (vs.getD t undef) := by
  have := h.getD t
  simpa [Array.getD_eq_getD_getElem?, List.getD_eq_getElem?_getD] using this
theorem RVs.putA {tm : List AV} {a : Act} (h : RVs M tm a.tmps.toList) (dst : Option Tmp) {v : AV} {v' : Value} (hv : RV M v v') : RVs M (putA tm dst v) (a.put dst v').tmps.toList := by
  cases dst with
  | none => exact h
  | some d => simp only [Ai.putA, Act.put, Array.toList_setIfInBounds]; exact h.set d hv
theorem put_defers (a : Act) (dst : Option Tmp) (v : Value) : (a.put dst v).defers = a.defers := by cases dst <;> rfl

/-- A defer statement. -/
theorem stepA_defer {inv : Inv} {rnd : Option Nat} {ops : Array Oper} {o : Oper} {c : Call} {s s' : St} (hop : o.op = .defer c) (e : stepA P rnd inv ops o s = some s') :
    s'.h = s.h ∧ ∀ {n B : Nat} {w0 w : World} {M : Mp} {X : Nat → Option AO} {a : Act} {K : Act → World → Prop} {Q : Exit → Act → World → Prop} {ro : Option Nat},
      (rnd = none → ro = none) → RA M s a → (∀ a', RA M s' a' → K a' w) → Taken ro n P ops o a w K Q := by
  cases hw : wantedA ops o s.tm with
  | none => simp [stepA, hw] at e
  | some b =>
    cases b with
    | false =>
      simp only [stepA, hw, Option.some.injEq] at e; subst e
      refine ⟨rfl, ?_⟩
      intro n B w0 w M X a K Q ro hro r k
      unfold Taken
      rw [wantedA_ok hw fun t _ => r.tm.look t, if_neg (by simp)]
      exact ⟨fun _ _ => trivial, k _ ⟨r.tm.putA _ .undef, by rw [put_defers]; exact r.df⟩⟩
    | true =>
      obtain ⟨callee, args, ats⟩ := c
      cases callee with
      | builtin b => simp [stepA, hw, hop, execA, opA] at e
      | invoke r m => simp [stepA, hw, hop, execA, opA] at e
      | value f =>
        simp only [stepA, hw, hop] at e
        cases rnd with
        | some l => simp at e
        | none =>
          simp only [Option.isSome_none, cond_false] at e
          split at e
          · rename_i g xs ys vs hf hvs
            injection e with e; subst e
            refine ⟨rfl, ?_⟩
            intro n B w0 w M X a K Q ro hro r k
            unfold Taken
            rw [wantedA_ok hw fun t _ => r.tm.look t, if_pos rfl]
            have hρ : ∀ x v, evalA s.tm x = some v → RV M v (a.eval x) := fun x v hx => evalA_ok hx fun t _ => r.tm.look t
            obtain ⟨xs', ys', hfv, hx, hy⟩ := hρ _ _ hf
            have ha := mapOpt_RVs hρ hvs
            refine ⟨fun _ _ => trivial, ?_⟩
            rw [show (fen ro).round = none from hro rfl, Oper.semAt_none]
            unfold execOp
            rw [hop]
            simp only [resolve, hfv, Deferred.ofValue, Sem.run_bind, Sem.run_pure, Result.andThen_ok, Oper.uponIn_defer]
            refine k _ ⟨?_, ?_⟩
            · exact RVs.putA (a := { a with defers := { target := .fn (.func g) ys', args := xs' ++ Array.map a.eval args } :: a.defers }) r.tm _ .undef
            · rw [put_defers]
              refine ⟨_, _, rfl, ⟨ys', rfl, ?_⟩, r.df⟩
              simp only [Array.toList_append, Array.toList_map]
              exact (hx.append ha).append hy
          · cases e

/-- A region that keeps its order. -/
theorem opsA_ok {inv : Inv} (S : InvOk P inv) {rnd : Option Nat} {ops : Array Oper} : ∀ (os : List Oper) (i : Nat) (s s' : St), os = ops.toList.drop i → opsA P rnd inv ops os s = some s' → s.h.WF →
    s'.h.WF ∧ Ext s.h s'.h ∧ ∀ {n B : Nat} {w0 w : World} {M : Mp} {X : Nat → Option AO} {a : Act} {Q : Exit → Act → World → Prop} {ro : Option Nat},
      (rnd = none → ro = none) → RA M s a → Rel B w0 M X w → (∀ id, s.h.n ≤ id → id < s'.h.n → M id = none) → (∀ id, id < s.h.n → X id = s.h.get id) →
      (∀ a' M' w', Stp B w0 M s.h s'.h (ovr s'.h X) M' w' → RA M' s' a' → Q .normal a' w') → wpOpsIn (fen ro) n P ops Q (List.range' i os.length) a w := by
  intro os
  induction os with
  | nil =>
    intro i s s' hos e wf
    simp only [opsA, Option.some.injEq] at e; subst e
    refine ⟨wf, .refl _, ?_⟩
    intro n B w0 w M X a Q ro hro r R hM agree k
    exact k a M w (Stp.same R _ fun _ _ _ => by rw [ovr_same agree]) r
  | cons o os ih =>
    intro i s s' hos e wf
    simp only [opsA] at e
    have hoi : ops[i]? = some o := by
      have := congrArg (·[0]?) hos
      simpa [List.getElem?_drop] using this.symm
    have hos' : os = ops.toList.drop (i + 1) := by
      have := congrArg List.tail hos
      simpa [List.tail_drop] using this
    split at e
    · rename_i s1 h1
      by_cases hdef : ∃ c, o.op = .defer c
      · obtain ⟨c, hc⟩ := hdef
        obtain ⟨d1, d2⟩ := stepA_defer hc h1
        obtain ⟨q1, q2, q3⟩ := ih (i + 1) s1 s' hos' e (d1 ▸ wf)
        refine ⟨q1, d1 ▸ q2, ?_⟩
        intro n B w0 w M X a Q ro hro r R hM agree k
        rw [List.length_cons, List.range'_succ]
        show wpOpsIn _ _ _ _ _ (i :: List.range' (i + 1) os.length) _ _
        simp only [wpOpsIn, hoi]
        refine d2 (n := n) (B := B) (w0 := w0) (X := X) (Q := Q) hro r (K := wpOpsIn (fen ro) n P ops Q (List.range' (i + 1) os.length)) fun a' r' => ?_
        refine q3 hro r' R (d1 ▸ hM) (d1 ▸ agree) fun a2 M2 w2 st r2 => k a2 M2 w2 ?_ r2
        rw [d1] at st; exact st
      · obtain ⟨d1, d2, d3, v, d4, d5⟩ := stepS S h1 (fun c hc => hdef ⟨c, hc⟩) wf
        obtain ⟨q1, q2, q3⟩ := ih (i + 1) s1 s' hos' e d1
        refine ⟨q1, d2.trans q2, ?_⟩
        intro n B w0 w M X a Q ro hro r R hM agree k
        rw [List.length_cons, List.range'_succ]
        show wpOpsIn _ _ _ _ _ (i :: List.range' (i + 1) os.length) _ _
        simp only [wpOpsIn, hoi]
        refine d5 (Q := Q) (K := wpOpsIn (fen ro) n P ops Q (List.range' (i + 1) os.length)) (fun t _ => r.tm.look t) R (fun id e1 e2 => hM id e1 (Nat.lt_of_lt_of_le e2 q2.n)) agree fun v' M1 w1 st1 hv => ?_
        refine q3 hro ⟨?_, ?_⟩ st1.rel (st1.free d2.n hM) (ovr_agree X) fun a2 M2 w2 st r2 => k a2 M2 w2 (st1.andThen d2.n q2.n st) r2
        · rw [d4]; exact (r.tm.mono st1.le).putA _ hv
        · rw [d3, put_defers]; exact r.df.mono st1.le
    · cases e
end
end Go.Ai
