/- Code, in the model, where the abstract machine runs it. -/
import Derived.Test.YthllmdjcogjkoaaDoorAi16
import Derived.LoopNIn
namespace Go.Ai
set_option linter.unusedSimpArgs false
set_option linter.unusedVariables false

section
variable {P : Program} {B : Nat} {w0 w : World} {M : Mp} {X : Nat → Option AO} {h h' : AH}

theorem Stp.pushR (R : Rel B w0 M X w) (agree : ∀ id, id < h.n → X id = h.get id) (hM : M h.n = none) {o : AO} {obj : Obj} {p : Pt} (hp : p.blk = w.heap.size)
    (ho : OR B (M.add h.n p) p (w.alloc obj) o) : Stp B w0 M h (h.push o) (ovr (h.push o) X) (M.add h.n p) (w.alloc obj) := by
  have := Stp.push R h hM hp ho
  refine ⟨this.le, this.dom, this.rel.congr fun id q hq => ?_⟩
  unfold ovr ovw
  rw [AH.push_n, AH.get_push]
  by_cases e : id = h.n
  · rw [if_pos (by omega), if_pos e, if_pos (by omega)]
  · rw [if_neg e]
    by_cases e2 : id < h.n + 1
    · rw [if_pos e2, if_neg (by omega)]; exact (agree id (by omega)).symm
    · rw [if_neg e2, if_neg (by omega)]
theorem Stp.setR (R : Rel B w0 M X w) (wf : h.WF) (agree : ∀ id, id < h.n → X id = h.get id) {id : Nat} {p : Pt} {o0 o : AO} (hp : M id = some p) (hg : h.get id = some o0) (h0 : o0 ≠ .gone) (h00 : ∀ cs, o0 ≠ .cells cs true) (hB : B ≤ p.blk) {obj : Obj}
    (ho : OR B M p (w.putObj p.blk obj) o) : Stp B w0 M h (h.set id o) (ovr (h.set id o) X) M (w.putObj p.blk obj) := by
  have hlt := wf.lt hg
  refine ⟨.refl _, fun _ e _ => e, (R.put hp ((agree id hlt).trans hg) h0 h00 hB ho).congr fun j q hq => ?_⟩
  unfold ovr
  rw [AH.set_n, AH.get_set]
  by_cases ej : j = id
  · subst ej; rw [if_pos hlt, if_pos rfl, if_pos rfl]
  · rw [if_neg ej, if_neg ej]
    split
    · rename_i e; exact (agree j e).symm
    · rfl

theorem alloc_size (w : World) (o : Obj) : (w.alloc o).heap.size = w.heap.size + 1 := by show (w.heap.push o).size = _; simp
theorem alloc_new2 (w : World) (o o' : Obj) : ((w.alloc o).alloc o').heap[w.heap.size + 1]? = some o' := by rw [← alloc_size w o]; exact World.alloc_heap_new _ _

def toExit : Ex → Exit
  | .normal => .normal
  | .exit id => .exit id
  | .ret => .ret
/-- In a round, or out of it. -/
def RR (M : Mp) : Option Nat → Option Nat → Prop
  | none, none => True
  | some l, some b => ∃ p, M l = some p ∧ p.blk = b
  | _, _ => False
theorem RR.mono {M M' : Mp} (h : M.le M') {a b : Option Nat} (r : RR M a b) : RR M' a b := by
  cases a <;> cases b <;> first | exact r | (obtain ⟨p, hp, e⟩ := r; exact ⟨p, h.1 _ _ hp, e⟩)
theorem RR.none_ok {a b : Option Nat} (r : RR M a b) : a = none → b = none := by
  intro e; subst e; cases b with
  | none => rfl
  | some b => exact r.elim

/-- What code comes to. -/
def Runs (P : Program) (c : Code) (rnd : Option Nat) (s : St) (e : Ex) (s' : St) : Prop :=
  s'.h.WF ∧ Ext s.h s'.h ∧ ∀ {n B : Nat} {w0 w : World} {M : Mp} {X : Nat → Option AO} {a : Act} {Q : Exit → Act → World → Prop} {ro : Option Nat},
    RR M rnd ro → RA M s a → Rel B w0 M X w → (∀ id, s.h.n ≤ id → id < s'.h.n → M id = none) → (∀ id, id < s.h.n → X id = s.h.get id) →
    (∀ a' M' w', Stp B w0 M s.h s'.h (ovr s'.h X) M' w' → RA M' s' a' → Q (toExit e) a' w') → c.wpIn (fen ro) n P Q a w

theorem Runs.here {c : Code} {rnd : Option Nat} {s : St} {e : Ex} (wf : s.h.WF)
    (k : ∀ {n : Nat} {w : World} {a : Act} {Q : Exit → Act → World → Prop} {ro : Option Nat}, Q (toExit e) a w → c.wpIn (fen ro) n P Q a w) : Runs P c rnd s e s :=
  ⟨wf, .refl _, fun _ ra R _ agree q => k (q _ _ _ (Stp.same R _ fun _ _ _ => by rw [ovr_same agree]) ra)⟩

theorem Runs.seq {x y : Code} {rnd : Option Nat} {s s1 s2 : St} {e : Ex} (hx : Runs P x rnd s .normal s1) (hy : Runs P y rnd s1 e s2) : Runs P (.seq x y) rnd s e s2 := by
  obtain ⟨x1, x2, x3⟩ := hx
  obtain ⟨y1, y2, y3⟩ := hy
  refine ⟨y1, x2.trans y2, fun {n B w0 w M X a Q ro} hr ra R hM agree k => ?_⟩
  refine wpIn_seq (x3 hr ra R (fun id e1 e2 => hM id e1 (Nat.lt_of_lt_of_le e2 y2.n)) agree fun a1 M1 w1 st1 ra1 => ?_)
  exact y3 (hr.mono st1.le) ra1 st1.rel (st1.free x2.n hM) (ovr_agree X) fun a2 M2 w2 st2 ra2 => k a2 M2 w2 (st1.andThen x2.n y2.n st2) ra2
theorem Runs.seq_out {x y : Code} {rnd : Option Nat} {s s1 : St} {e : Ex} (hx : Runs P x rnd s e s1) (he : e ≠ .normal) : Runs P (.seq x y) rnd s e s1 := by
  obtain ⟨x1, x2, x3⟩ := hx
  refine ⟨x1, x2, fun {n B w0 w M X a Q ro} hr ra R hM agree k => wpIn_seq (x3 hr ra R hM agree fun a1 M1 w1 st1 ra1 => ?_)⟩
  have := k a1 M1 w1 st1 ra1
  cases e <;> first | exact absurd rfl he | exact this

theorem loop_ok {c : Code} {rnd : Option Nat} {f : St → Option (Ex × St)} (hf : ∀ s e s', f s = some (e, s') → s.h.WF → Runs P c rnd s e s') : ∀ (k : Nat) (s : St) (e : Ex) (s' : St), loopA k f s = some (e, s') → s.h.WF →
    s'.h.WF ∧ Ext s.h s'.h ∧ ∀ {n B : Nat} {w0 w : World} {M : Mp} {X : Nat → Option AO} {a : Act} {Q : Exit → Act → World → Prop} {ro : Option Nat},
      RR M rnd ro → RA M s a → Rel B w0 M X w → (∀ id, s.h.n ≤ id → id < s'.h.n → M id = none) → (∀ id, id < s.h.n → X id = s.h.get id) →
      (∀ a' M' w', Stp B w0 M s.h s'.h (ovr s'.h X) M' w' → RA M' s' a' → Q (toExit e) a' w') → Code.roundsIn (fen ro) n P c Q k a w := by
  intro k
  induction k with
  | zero => intro s e s' h; cases h
  | succ k ih =>
    intro s e s' h wf
    simp only [loopA] at h
    split at h
    · rename_i s1 h1
      obtain ⟨x1, x2, x3⟩ := hf s .normal s1 h1 wf
      obtain ⟨y1, y2, y3⟩ := ih s1 e s' h x1
      refine ⟨y1, x2.trans y2, fun {n B w0 w M X a Q ro} hr ra R hM agree q => ?_⟩
      rw [roundsIn_succ]
      refine x3 hr ra R (fun id e1 e2 => hM id e1 (Nat.lt_of_lt_of_le e2 y2.n)) agree fun a1 M1 w1 st1 ra1 => ?_
      exact y3 (hr.mono st1.le) ra1 st1.rel (st1.free x2.n hM) (ovr_agree X) fun a2 M2 w2 st2 ra2 => q a2 M2 w2 (st1.andThen x2.n y2.n st2) ra2
    · rename_i r hne
      cases hr : f s with
      | none => rw [hr] at h; cases h
      | some r =>
        obtain ⟨e1, s1⟩ := r
        rw [hr] at h hne
        injection h with h; injection h with h1 h2; subst h1 h2
        have he : e1 ≠ .normal := fun e => hne s1 (by rw [e])
        obtain ⟨x1, x2, x3⟩ := hf s e1 s1 hr wf
        refine ⟨x1, x2, fun {n B w0 w M X a Q ro} hr ra R hM agree q => ?_⟩
        rw [roundsIn_succ]
        refine x3 hr ra R hM agree fun a1 M1 w1 st1 ra1 => ?_
        have := q a1 M1 w1 st1 ra1
        cases e1 <;> first | exact absurd rfl he | exact this

/-- The record's laying, ahead of a range over a function. -/
theorem head_ok {rnd : Option Nat} {s : St} {df : List ADef} {h0 : AH} (e : headA rnd s = some (df, h0)) (wf : s.h.WF) {ps : Array Tmp} {assign body : Code} (ca : codeOk assign = true) (cb : codeOk body = true) :
    h0.WF ∧ Ext s.h h0 ∧ ∀ {B : Nat} {w0 w : World} {M : Mp} {X : Nat → Option AO} {a : Act} {ro : Option Nat} (fn : FuncId),
      RR M rnd ro → RA M s a → Rel B w0 M X w → (∀ id, s.h.n ≤ id → id < h0.n + 1 → M id = none) → (∀ id, id < s.h.n → X id = s.h.get id) →
      ∃ (l : Nat) (mark : List Deferred) (w1 : World) (M1 : Mp) (p : Pt), (Instr.enterLoop fn a.tmps ps assign body ro).run P w = .ok (l, mark) w1 ∧ p.blk = l ∧
        Stp B w0 M s.h (h0.push (.loop .ready none s.tm ps.toList assign body)) (ovr (h0.push (.loop .ready none s.tm ps.toList assign body)) X) M1 w1 ∧ M1 h0.n = some p ∧ RDs M1 df (mark ++ a.defers) := by
  cases rnd with
  | none =>
    simp only [headA, Option.some.injEq, Prod.mk.injEq] at e
    obtain ⟨rfl, rfl⟩ := e
    refine ⟨wf.push _, .push _ _, ?_⟩
    intro B w0 w M X a ro fn hr ra R hM agree
    have hro := hr.none_ok rfl
    subst hro
    have st1 := Stp.pushR (h := s.h) R agree (hM _ (Nat.le_refl _) (by rw [AH.push_n]; omega)) (o := .dfr) (obj := .deferred (some [])) (p := ⟨w.heap.size, 0, 0⟩) rfl ⟨World.alloc_heap_new w _, R.big⟩
    have hM1 : (M.add s.h.n ⟨w.heap.size, 0, 0⟩) (s.h.push .dfr).n = none := by
      rw [AH.push_n]; rw [Mp.add_at, if_neg (by omega)]; exact hM _ (by omega) (by rw [AH.push_n]; omega)
    have st2 := Stp.pushR (h := s.h.push .dfr) st1.rel (ovr_agree X) hM1 (o := .loop .ready none s.tm ps.toList assign body)
      (obj := .loop { state := .ready, pending := none, fn, tmps := a.tmps, params := ps, assign, body, defers := w.heap.size }) (p := ⟨w.heap.size + 1, 0, 0⟩) (alloc_size _ _).symm
      ⟨_, alloc_new2 _ _ _, rfl, rfl, (ra.tm.mono st1.le).mono (Mp.le_add hM1), rfl, rfl, rfl, by have := R.big; show B ≤ w.heap.size + 1; omega, ca, cb⟩
    refine ⟨_, _, _, _, ⟨w.heap.size + 1, 0, 0⟩, run_enterLoop_outer fn a.tmps ps assign body, rfl, st1.andThen (by simp only [AH.push_n]; omega) (by simp only [AH.push_n]; omega) st2, Mp.add_same _ _ _, ?_⟩
    refine ⟨_, _, rfl, ⟨⟨w.heap.size, 0, 0⟩, ?_, rfl⟩, (ra.df.mono st1.le).mono st2.le⟩
    exact st2.le.1 _ _ (Mp.add_same _ _ _)
  | some l0 =>
    simp only [headA] at e
    split at e
    · rename_i st0 pd tm0 ps0 a0 b0 hg
      simp only [Option.some.injEq, Prod.mk.injEq] at e
      obtain ⟨rfl, rfl⟩ := e
      refine ⟨wf, .refl _, ?_⟩
      intro B w0 w M X a ro fn hr ra R hM agree
      cases ro with
      | none => exact hr.elim
      | some b0 =>
        obtain ⟨p0, hp0, rfl⟩ := hr
        obtain ⟨o, hx, ho⟩ := R.obj l0 p0 hp0
        rw [agree l0 (wf.lt hg), hg] at hx; injection hx with hx; subst hx
        obtain ⟨L, hL, _⟩ := ho
        have hM1 := hM s.h.n (Nat.le_refl _) (by omega)
        have st2 := Stp.pushR (h := s.h) R agree hM1 (o := .loop .ready none s.tm ps.toList assign body)
          (obj := .loop { state := .ready, pending := none, fn, tmps := a.tmps, params := ps, assign, body, defers := L.defers }) (p := ⟨w.heap.size, 0, 0⟩) rfl
          ⟨_, World.alloc_heap_new w _, rfl, rfl, ra.tm.mono (Mp.le_add hM1), rfl, rfl, rfl, R.big, ca, cb⟩
        refine ⟨w.heap.size, [], _, _, ⟨w.heap.size, 0, 0⟩, ?_, rfl, st2, Mp.add_same _ _ _, ra.df.mono st2.le⟩
        simp only [Instr.enterLoop, Sem.run_bind, run_getLoop hL, Result.andThen_ok, Sem.run_pure, run_newObj, World.alloc]
    · cases e

theorem range_ok {inv : Inv} (S : InvOk P inv) {rnd : Option Nat} {f : Operand} {ps : Array Tmp} {assign body : Code} (ca : codeOk assign = true) (cb : codeOk body = true) {s s' : St} {e : Ex}
    (h : rangeA rnd inv f ps.toList assign body s = some (e, s')) (wf : s.h.WF) : Runs P (.rangeFunc f ps assign body) rnd s e s' := by
  unfold rangeA at h
  split at h
  · rename_i g xs ys hf
    split at h
    · rename_i df h0 hh
      split at h
      · rename_i v1 h1 hinv
        split at h
        · rename_i st pend tm ps' a' b' hg
          obtain ⟨w1, w2, w3⟩ := head_ok (P := P) hh wf (ps := ps) ca cb
          have C := S _ _ _ _ hinv (w1.push _)
          cases hbusy : isBusy st with
          | true => rw [hbusy] at h; cases h
          | false =>
            rw [hbusy] at h
            simp only [cond_false] at h
            have hs' : s' = { tm := s.tm, df := df, h := h1.set h0.n (.loop .exhausted pend tm ps' a' b') } ∧ ((pend = none ∧ e = .normal) ∨ (pend = some .ret ∧ e = .ret) ∨ ∃ id, pend = some (.exit id) ∧ e = .exit id) := by
              unfold tailA at h
              split at h
              · injection h with h; injection h with h1 h2; exact ⟨h2.symm, .inl ⟨rfl, h1.symm⟩⟩
              · injection h with h; injection h with h1 h2; exact ⟨h2.symm, .inr (.inl ⟨rfl, h1.symm⟩)⟩
              · injection h with h; injection h with h1 h2; exact ⟨h2.symm, .inr (.inr ⟨_, rfl, h1.symm⟩)⟩
              · cases h
            obtain ⟨rfl, hend⟩ := hs'
            have hlt := C.wf.lt hg
            have e2 : Ext s.h (h0.push (.loop .ready none s.tm ps.toList assign body)) := w2.trans (.push _ _)
            refine ⟨C.wf.set hlt _, (e2.trans C.ext).trans (.set _ _ _), ?_⟩
            intro n B w0 w M X a Q ro hr ra R hM agree k
            refine wpIn_rangeFunc fun fn _ => ?_
            have hn1 : h0.n + 1 ≤ h1.n := by have := C.ext.n; rwa [AH.push_n] at this
            obtain ⟨l, mark, wb, M1, p, hrun, hpl, st1, hp1, hdf⟩ := w3 (B := B) (w0 := w0) fn hr ra R (fun id k1 k2 => hM id k1 (by rw [AH.set_n]; omega)) agree
            have hfv : RV M (.func g xs ys) (a.eval f) := evalA_ok hf fun t _ => ra.tm.look t
            obtain ⟨xs', ys', hfv, hx, hy⟩ := hfv
            have hargs : RVs M1 (xs ++ [.yieldf h0.n] ++ ys) (xs' ++ #[Value.func (.yield l) #[] #[]] ++ ys').toList := by
              simp only [Array.toList_append]
              refine ((hx.mono st1.le).append (RVs.cons (a := .yieldf h0.n) (v := Value.func (.yield l) #[] #[]) ⟨p, hp1, by rw [hpl]⟩ .nil)).append (hy.mono st1.le)
            have hM1 : ∀ id, (h0.push (.loop .ready none s.tm ps.toList assign body)).n ≤ id → id < h1.n → M1 id = none :=
              st1.free e2.n (h2 := h1) fun id k1 k2 => hM id k1 (by rw [AH.set_n]; exact k2)
            refine ⟨l, mark, wb, { target := .fn (.func g) ys', args := xs' ++ #[Value.func (.yield l) #[] #[]] }, wb, g, xs' ++ #[Value.func (.yield l) #[] #[]] ++ ys', wb, hrun, ?_, fun _ _ => trivial, ?_, fun hh => by simp [fen, Fence.wide] at hh, ?_⟩
            · have : a.eval (.const (Value.func (.yield l) #[] #[])) = Value.func (.yield l) #[] #[] := rfl
              simp only [rangeCall, resolve, hfv, Deferred.ofValue, List.map_toArray, List.map_cons, List.map_nil, this, Sem.run_pure]
            · simp only [invoke, run_callFunc (C.fn g rfl)]
            · refine CallsIn.mono (C.call g rfl (n - 1) B w0 M1 _ wb _ hargs st1.rel hM1 (ovr_agree X)) fun e w3 hb => ?_
              obtain ⟨v, rfl, M3, st3, hv⟩ := hb
              have hp3 := st3.le.1 _ _ hp1
              have stM := st1.andThen e2.n C.ext.n st3
              obtain ⟨o, hox, hoo⟩ := stM.rel.obj _ _ hp3
              rw [ovr_agree _ _ hlt, hg] at hox; injection hox with hox; subst hox
              obtain ⟨L, hL, hst, hpd, htm, hps, has, hbd, hB, hca, hcb⟩ := hoo
              have hnb : L.state ≠ .busy := by intro hh; rw [hst] at hh; subst hh; cases hbusy
              rw [hpl] at hL
              have hLlt := (Array.getElem?_eq_some_iff.1 hL).1
              have st4 := Stp.setR (h := h1) stM.rel C.wf (ovr_agree _) hp3 hg (by simp) (by simp) hB (o := .loop .exhausted pend tm ps' a' b') (obj := .loop { L with state := .exhausted })
                ⟨_, World.putObj_heap_same (hpl ▸ hLlt), rfl, hpd, htm, hps, has, hbd, hB, hca, hcb⟩
              have stAll := stM.andThen (Nat.le_trans e2.n C.ext.n) (Nat.le_refl _) (h2 := h1.set h0.n (.loop .exhausted pend tm ps' a' b')) st4
              refine ⟨L.pending, _, run_endLoop hL hnb, ?_⟩
              have ra' : RA M3 { tm := s.tm, df := df, h := h1.set h0.n (.loop .exhausted pend tm ps' a' b') } { a with defers := mark ++ a.defers } := ⟨ra.tm.mono (st1.le.trans st3.le), hdf.mono st3.le⟩
              have kk := k { a with defers := mark ++ a.defers } M3 _ (hpl ▸ stAll) ra'
              rw [hpd] at kk ⊢
              rcases hend with ⟨rfl, rfl⟩ | ⟨rfl, rfl⟩ | ⟨id, rfl, rfl⟩
              · exact kk
              · exact wpIn_ret kk
              · exact wpIn_exit kk
        · cases h
      · cases h
    · cases h
  · cases h

theorem code_ok {inv : Inv} (S : InvOk P inv) (hmix : P.follows .mixedOrders = true) (k : Nat) {rnd : Option Nat} : ∀ (c : Code), codeOk c = true → ∀ (s : St) (e : Ex) (s' : St), codeA P rnd inv k c s = some (e, s') → s.h.WF → Runs P c rnd s e s' := by
  intro c
  induction c with
  | skip => intro _ s e s' h wf; simp only [codeA, Option.some.injEq, Prod.mk.injEq] at h; obtain ⟨rfl, rfl⟩ := h; exact .here wf fun q => wpIn_skip q
  | label l => intro _ s e s' h wf; simp only [codeA, Option.some.injEq, Prod.mk.injEq] at h; obtain ⟨rfl, rfl⟩ := h; exact .here wf fun q => wpIn_label q
  | exit id => intro _ s e s' h wf; simp only [codeA, Option.some.injEq, Prod.mk.injEq] at h; obtain ⟨rfl, rfl⟩ := h; exact .here wf fun q => wpIn_exit q
  | ret => intro _ s e s' h wf; simp only [codeA, Option.some.injEq, Prod.mk.injEq] at h; obtain ⟨rfl, rfl⟩ := h; exact .here wf fun q => wpIn_ret q
  | goto l => intro _ s e s' h wf; cases h
  | scope c => intro _ s e s' h wf; cases h
  | refuse why => intro _ s e s' h wf; cases h
  | region id ops draw =>
    intro hc s e s' h wf
    cases draw with
    | false =>
      simp only [codeA, cond_false] at h
      split at h
      · rename_i s1 h1
        simp only [Option.some.injEq, Prod.mk.injEq] at h; obtain ⟨rfl, rfl⟩ := h
        obtain ⟨x1, x2, x3⟩ := opsA_ok S ops.toList 0 s s1 (by simp) h1 wf
        refine ⟨x1, x2, fun {n B w0 w M X a Q ro} hr ra R hM agree q => wpIn_region ?_⟩
        have := x3 (Q := Q) (n := n) hr.none_ok ra R hM agree q
        rwa [Array.length_toList, ← List.range_eq_range'] at this
      · cases h
    | true =>
      simp only [codeA, cond_true] at h
      split at h
      · rename_i s1 h1
        simp only [Option.some.injEq, Prod.mk.injEq] at h; obtain ⟨rfl, rfl⟩ := h
        obtain ⟨x1, x2, x3⟩ := regionD_ok S hmix (by simpa [codeOk] using hc) h1 wf
        exact ⟨x1, x2, fun {n B w0 w M X a Q ro} hr ra R hM agree q => x3 ra R hM agree q⟩
      · cases h
  | seq x y ihx ihy =>
    intro hc s e s' h wf
    simp only [codeOk, Bool.and_eq_true] at hc
    simp only [codeA] at h
    split at h
    · rename_i s1 h1
      have hx := ihx hc.1 s .normal s1 h1 wf
      exact hx.seq (ihy hc.2 s1 e s' h hx.1)
    · rename_i hne
      refine (ihx hc.1 s e s' h wf).seq_out fun he => ?_
      subst he; exact hne s' h
  | cond c x y ihx ihy =>
    intro hc s e s' h wf
    simp only [codeOk, Bool.and_eq_true] at hc
    simp only [codeA] at h
    split at h
    · rename_i hcv
      obtain ⟨x1, x2, x3⟩ := ihx hc.1 s e s' h wf
      exact ⟨x1, x2, fun {n B w0 w M X a Q ro} hr ra R hM agree q => wpIn_cond_true (evalA_ok (M := M) hcv fun t _ => ra.tm.look t) (x3 hr ra R hM agree q)⟩
    · rename_i hcv
      obtain ⟨x1, x2, x3⟩ := ihy hc.2 s e s' h wf
      exact ⟨x1, x2, fun {n B w0 w M X a Q ro} hr ra R hM agree q => wpIn_cond_false (evalA_ok (M := M) hcv fun t _ => ra.tm.look t) (x3 hr ra R hM agree q)⟩
    · cases h
  | block id c ih =>
    intro hc s e s' h wf
    simp only [codeA] at h
    split at h
    · rename_i i s1 h1
      obtain ⟨x1, x2, x3⟩ := ih hc s _ s1 h1 wf
      by_cases hi : i = id
      · rw [show (i == id) = true by simp [hi]] at h
        simp only [cond_true, Option.some.injEq, Prod.mk.injEq] at h; obtain ⟨rfl, rfl⟩ := h
        exact ⟨x1, x2, fun {n B w0 w M X a Q ro} hr ra R hM agree q => wpIn_block (x3 hr ra R hM agree fun a' M' w' st ra' => by
          show Exit.inBlock id Q (.exit i) a' w'
          simp only [Exit.inBlock, hi, if_true]; exact q a' M' w' st ra')⟩
      · rw [show (i == id) = false by simp [hi]] at h
        simp only [cond_false, Option.some.injEq, Prod.mk.injEq] at h; obtain ⟨rfl, rfl⟩ := h
        exact ⟨x1, x2, fun {n B w0 w M X a Q ro} hr ra R hM agree q => wpIn_block (x3 hr ra R hM agree fun a' M' w' st ra' => by
          show Exit.inBlock id Q (.exit i) a' w'
          simp only [Exit.inBlock, hi, if_false]; exact q a' M' w' st ra')⟩
    · rename_i hne
      obtain ⟨x1, x2, x3⟩ := ih hc s e s' h wf
      refine ⟨x1, x2, fun {n B w0 w M X a Q ro} hr ra R hM agree q => wpIn_block (x3 hr ra R hM agree fun a' M' w' st ra' => ?_)⟩
      have := q a' M' w' st ra'
      cases e with
      | normal => exact this
      | ret => exact this
      | exit i => exact absurd h (hne i s')
  | loop c ih =>
    intro hc s e s' h wf
    simp only [codeA] at h
    obtain ⟨x1, x2, x3⟩ := loop_ok (P := P) (c := c) (rnd := rnd) (fun s e s' h wf => ih hc s e s' h wf) k s e s' h wf
    exact ⟨x1, x2, fun {n B w0 w M X a Q ro} hr ra R hM agree q => wpIn_loop_rounds k (x3 hr ra R hM agree q)⟩
  | rangeFunc f ps assign body _ _ =>
    intro hc s e s' h wf
    simp only [codeOk, Bool.and_eq_true] at hc
    simp only [codeA] at h
    exact range_ok S hc.1 hc.2 h wf
end
end Go.Ai
