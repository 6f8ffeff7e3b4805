/- Calls: what the abstract machine answers, the program answers. -/
import Derived.Test.YthllmdjcogjkoaaDoorAi17
import Derived.DefersIn
namespace Go.Ai
set_option linter.unusedSimpArgs false
set_option linter.unusedVariables false

section
variable {P : Program} {B : Nat} {w0 w : World} {M : Mp} {X : Nat → Option AO} {h h' : AH}

/-! ### Results -/
theorem result_ok {tm : List AV} {tmps : Array Value} (ht : RVs M tm tmps.toList) (R : Rel B w0 M X w) (agree : ∀ id, id < h.n → X id = h.get id) (wf : h.WF) {r : ResultVar} {v : AV} (e : resultA P h tm r = some v) :
    ∃ v', ((match r with | .tmp t => pure (tmps.getD t undef) | .cell a t => do loadVar t (← asAddr (tmps.getD a undef))) : Sem Value).run P w = .ok v' w ∧ RV M v v' := by
  cases r with
  | tmp t => simp only [resultA, Option.some.injEq] at e; subst e; exact ⟨_, rfl, ht.look t⟩
  | cell a t =>
    simp only [resultA] at e
    have hp := ht.look a
    have hlt : ∀ id off, tm.getD a undefA = .ptr id off → id < h.n := by
      intro id off hh
      rw [hh] at e
      rcases Nat.lt_or_ge id h.n with k | k
      · exact k
      · simp [loadA, cellsAt, wf _ k] at e
    obtain ⟨v', h1, h2⟩ := loadA_ok (P := P) e hp R fun id off hh => agree id (hlt id off hh)
    refine ⟨v', ?_, h2⟩
    have : ∃ ad, tmps.getD a undef = .pointer (some ad) := by
      cases hx : tm.getD a undefA <;> rw [hx] at e hp
      case ptr => obtain ⟨p, _, hv⟩ := hp; exact ⟨_, hv⟩
      case ipt => obtain ⟨b, o, arr, hv, _⟩ := hp; exact ⟨_, hv⟩
      all_goals (simp [loadA] at e; done)
    obtain ⟨ad, hv⟩ := this
    rw [hv] at h1
    dsimp only
    rw [hv]
    simpa only [Instr.loadAt, Instr.sureAddr, asAddr, Sem.run_bind, Sem.run_pure, Result.andThen_ok] using h1
theorem results_ok {fn : Func} {s : St} {v : AV} (e : resultsA P fn s = some v) {tmps : Array Value} (ht : RVs M s.tm tmps.toList) (R : Rel B w0 M X w) (agree : ∀ id, id < s.h.n → X id = s.h.get id) (wf : s.h.WF) :
    ∃ v', (results fn tmps).run P w = .ok v' w ∧ RV M v v' := by
  have key : ∀ (l : List ResultVar) (vs : List AV), mapOpt (resultA P s.h s.tm) l = some vs → ∃ vs' : List Value, (l.mapM (fun r => ((match r with | .tmp t => pure (tmps.getD t undef) | .cell a t => do loadVar t (← asAddr (tmps.getD a undef))) : Sem Value))).run P w = .ok vs' w ∧ RVs M vs vs' := by
    intro l
    induction l with
    | nil => intro vs hh; simp only [mapOpt, Option.some.injEq] at hh; subst hh; exact ⟨[], by simp, rfl⟩
    | cons r l ih =>
      intro vs hh
      simp only [mapOpt] at hh
      split at hh
      · rename_i b bs hb hbs
        injection hh with hh; subst hh
        obtain ⟨v', h1, h2⟩ := result_ok (P := P) ht R agree wf hb
        obtain ⟨vs', h3, h4⟩ := ih bs hbs
        exact ⟨v' :: vs', by simp only [List.mapM_cons, Sem.run_bind, h1, Result.andThen_ok, h3, Sem.run_pure], .cons h2 h4⟩
      · cases hh
  have mk : ∀ vs : List AV, mapOpt (resultA P s.h s.tm) fn.results.toList = some vs → ∃ vs' : List Value, RVs M vs vs' ∧ (results fn tmps).run P w = .ok (if h : vs'.toArray.size = 1 then vs'.toArray[0] else .tuple vs'.toArray) w := by
    intro vs hvs
    obtain ⟨vs', h1, h2⟩ := key _ _ hvs
    refine ⟨vs', h2, ?_⟩
    have h3 : (fn.results.mapM (fun r => ((match r with | .tmp t => pure (tmps.getD t undef) | .cell a t => do loadVar t (← asAddr (tmps.getD a undef))) : Sem Value))).run P w = .ok vs'.toArray w := by
      rw [Array.mapM_eq_mapM_toList, Sem.run_map, h1, Result.andThen_ok]
    unfold results
    rw [Sem.run_bind]
    show Result.andThen ((fn.results.mapM (fun r => ((match r with | .tmp t => pure (tmps.getD t undef) | .cell a t => do loadVar t (← asAddr (tmps.getD a undef))) : Sem Value))).run P w) _ = _
    rw [h3, Result.andThen_ok, Sem.run_pure]
  unfold resultsA at e
  split at e
  · rename_i v1 hvs
    injection e with e; subst e
    obtain ⟨vs', h1, h2⟩ := mk _ hvs
    obtain ⟨v', _, rfl, hv, hn⟩ := h1
    cases hn
    exact ⟨v', by simpa using h2, hv⟩
  · rename_i vs hne hvs
    injection e with e; subst e
    obtain ⟨vs', h1, h2⟩ := mk _ hvs
    have hl := h1.length
    have : ¬ vs'.toArray.size = 1 := by
      intro hh
      simp at hh
      rw [hh] at hl
      obtain ⟨a, rfl⟩ := List.length_eq_one_iff.1 hl
      exact hne a rfl
    rw [dif_neg this] at h2
    exact ⟨_, h2, vs'.toArray, rfl, h1⟩
  · cases e

/-! ### A body; the way out -/
theorem entry_ok {args : List AV} {args' : Array Value} (ha : RVs M args args'.toList) (n : Nat) {h : AH} :
    RA M { tm := args ++ List.replicate (n - args.length) undefA, df := [], h := h } { tmps := args' ++ Array.replicate (n - args'.size) undef, defers := [] } := by
  refine ⟨?_, rfl⟩
  have hl := ha.length
  simp only [Array.length_toList] at hl
  simp only [Array.toList_append, Array.toList_replicate, hl]
  exact ha.append (RVs.replicate _ .undef)

/-- A body, ended. -/
theorem body_ok {inv : Inv} (S : InvOk P inv) (hmix : P.follows .mixedOrders = true) {k : Nat} {fn : Func} {c : Code} (hb : fn.body = some c) (hc : codeOk c = true) {args : List AV} {s : St} (e : bodyA P inv k fn args h = some s) (wf : h.WF) :
    s.h.WF ∧ Ext h s.h ∧ ∀ {n B : Nat} {w0 w : World} {M : Mp} {X : Nat → Option AO} {args' : Array Value} {Q : Exit → Act → World → Prop},
      RVs M args args'.toList → Rel B w0 M X w → (∀ id, h.n ≤ id → id < s.h.n → M id = none) → (∀ id, id < h.n → X id = h.get id) →
      (∀ e a' M' w', (e = .normal ∨ e = .ret) → Stp B w0 M h s.h (ovr s.h X) M' w' → RA M' s a' → Q e a' w') → c.wpIn (fen none) n P Q { tmps := args' ++ Array.replicate (fn.ntmps - args'.size) undef, defers := [] } w := by
  unfold bodyA at e
  rw [hb] at e
  simp only at e
  have key : ∃ ex, codeA P none inv k c { tm := args ++ List.replicate (fn.ntmps - args.length) undefA, df := [], h := h } = some (ex, s) ∧ (toExit ex = .normal ∨ toExit ex = .ret) := by
    split at e
    · rename_i s1 h1; injection e with e; subst e; exact ⟨_, h1, .inl rfl⟩
    · rename_i s1 h1; injection e with e; subst e; exact ⟨_, h1, .inr rfl⟩
    · cases e
  obtain ⟨ex, h1, hex⟩ := key
  obtain ⟨x1, x2, x3⟩ := code_ok S hmix k c hc _ _ _ h1 wf
  refine ⟨x1, x2, fun {n B w0 w M X args' Q} ha R hM agree q => ?_⟩
  exact x3 (ro := none) trivial (entry_ok ha fn.ntmps) R hM agree fun a' M' w' st ra => q _ a' M' w' hex st ra

theorem progOk_at (hp : progOk P = true) : P.follows .mixedOrders = true ∧ ∀ {f : FuncId} {fn : Func} {c : Code}, P.funcs[f]? = some fn → fn.body = some c → codeOk c = true ∧ (fn.name == "runtime.NumGoroutine") = false := by
  simp only [progOk, Bool.and_eq_true, List.all_eq_true] at hp
  refine ⟨hp.1, fun {f fn c} hf hb => ?_⟩
  have := hp.2 fn (Array.mem_toList_iff.2 (Array.mem_of_getElem? hf))
  rw [hb] at this
  simp only [Bool.and_eq_true, bne, Bool.not_eq_true'] at this
  exact this

/-- The deferred calls, on the way out. -/
theorem leave_ok {inv : Inv} (S : InvOk P inv) (hp : progOk P = true) {k : Nat} {fn : Func} {tmps : Array Value} {Rr : Ending → World → Prop} : ∀ (ds : List ADef) (h h' : AH), leaveA P inv k ds h = some h' → h.WF →
    h'.WF ∧ Ext h h' ∧ ∀ {n B : Nat} {w0 w : World} {M : Mp} {X : Nat → Option AO} {ds' : List Deferred},
      RDs M ds ds' → Rel B w0 M X w → (∀ id, h.n ≤ id → id < h'.n → M id = none) → (∀ id, id < h.n → X id = h.get id) →
      (∀ M' w', Stp B w0 M h h' (ovr h' X) M' w' → ∃ v, (results fn tmps).run P w' = .ok v w' ∧ Rr (.returned v) w') → LeavesInM (fen none) n P fn tmps Rr ds' .returning w := by
  intro ds
  induction ds with
  | nil =>
    intro h h' e wf
    simp only [leaveA, Option.some.injEq] at e; subst e
    refine ⟨wf, .refl _, fun {n B w0 w M X ds'} hd R hM agree q => ?_⟩
    cases hd
    exact q M w (Stp.same R _ fun _ _ _ => by rw [ovr_same agree])
  | cons d ds ih =>
    intro h h' e wf
    cases d with
    | mark id =>
      simp only [leaveA] at e
      split at e
      · rename_i hg
        have hlt := wf.lt hg
        obtain ⟨y1, y2, y3⟩ := ih _ _ e (wf.set hlt _)
        refine ⟨y1, (Ext.set _ _ _).trans y2, fun {n B w0 w M X ds'} hd R hM agree q => ?_⟩
        obtain ⟨d', rest, rfl, ⟨p, hp1, ht⟩, hr⟩ := hd
        obtain ⟨o, hox, hoo⟩ := R.obj _ _ hp1
        rw [agree _ hlt, hg] at hox; injection hox with hox; subst hox
        obtain ⟨hw1, hB⟩ := hoo
        have st1 := Stp.setR (h := h) R wf agree hp1 hg (by simp) (by simp) hB (o := .gone) (obj := .deferred none) trivial
        have hn := y2.n
        rw [AH.set_n] at hn
        refine ⟨by simp, .inl ⟨p.blk, _, ht, run_takeDeferred hw1, ?_⟩⟩
        exact y3 hr st1.rel (st1.free (h1 := h.set id .gone) (Nat.le_refl h.n) hM) (ovr_agree X) fun M' w' st2 => q M' w' (st1.andThen (h1 := h.set id .gone) (Nat.le_refl h.n) y2.n st2)
      · cases e
    | call f args =>
      simp only [leaveA] at e
      split at e
      · rename_i h1 hd
        unfold deferredA at hd
        split at hd
        · rename_i fn' hf
          split at hd
          · rename_i s hs
            split at hd
            · rename_i v hdf hres
              injection hd with hd; subst hd
              obtain ⟨c, hb⟩ : ∃ c, fn'.body = some c := by
                cases hb : fn'.body with
                | none => unfold bodyA at hs; rw [hb] at hs; cases hs
                | some c => exact ⟨c, rfl⟩
              obtain ⟨hc, hname⟩ := (progOk_at hp).2 hf hb
              obtain ⟨x1, x2, x3⟩ := body_ok S (progOk_at hp).1 hb hc hs wf
              obtain ⟨y1, y2, y3⟩ := ih _ _ e x1
              refine ⟨y1, x2.trans y2, fun {n B w0 w M X ds'} hd R hM agree q => ?_⟩
              obtain ⟨d', rest, rfl, ⟨cap, ht, ha⟩, hr⟩ := hd
              refine ⟨by simp, .inr ⟨fun hh => by simp [fen, Fence.wide] at hh, .func f, cap, f, d'.args ++ cap, ht, ?_, fun _ _ => trivial, ?_⟩⟩
              · rw [ht]; simp only [invoke]; exact run_callFunc ⟨fn', c, hf, hb, hname⟩ _
              · have hM1 : ∀ id, h.n ≤ id → id < s.h.n → M id = none := fun id e1 e2 => hM id e1 (Nat.lt_of_lt_of_le e2 y2.n)
                have hcall : CallsDIn (fen none) (n - 1) P f (d'.args ++ cap) .returning w fun e u' w' => u' = .returning ∧ (∃ v, e = .returned v ∧ ∃ M1, Stp B w0 M h s.h (ovr s.h X) M1 w') := by
                  refine callsDIn_of_wp hf hb trivial ?_
                  refine x3 ha R hM1 agree fun e a' M' w' hex st ra => ?_
                  have hd0 : a'.defers = [] := by have := ra.df; rw [hdf] at this; exact this
                  obtain ⟨v', hv1, hv2⟩ := results_ok (P := P) hres ra.tm st.rel (ovr_agree X) x1
                  rcases hex with rfl | rfl <;> exact ⟨hd0, v', hv1, v', rfl, M', st⟩
                obtain ⟨hF, hcall⟩ := hcall
                refine ⟨hF, fun c0 cs hu hroom => ?_⟩
                obtain ⟨e, u', w', fr, ⟨rfl, v, rfl, M1, st1⟩, rest'⟩ := hcall c0 cs hu hroom
                refine ⟨_, _, w', fr, ?_, rest'⟩
                show LeavesInM (fen none) n P fn tmps Rr rest (settle .returning) w'
                exact y3 (hr.mono st1.le) st1.rel (st1.free x2.n hM) (ovr_agree X) fun M' w' st2 => q M' w' (st1.andThen x2.n y2.n st2)
            · cases hd
          · cases hd
        · cases hd
      · cases e

/-- A call of a function. -/
theorem callFn_ok {inv : Inv} (S : InvOk P inv) (hp : progOk P = true) {k : Nat} {f : FuncId} {args : List AV} {r : AV × AH} (e : callFnA P inv k f args h = some r) (wf : h.WF) : Calling P (.fn f) args h r := by
  unfold callFnA at e
  split at e
  · rename_i fn hf
    split at e
    · rename_i s hs
      split at e
      · rename_i h2 hl
        split at e
        · rename_i v hres
          injection e with e; subst e
          obtain ⟨c, hb⟩ : ∃ c, fn.body = some c := by
            cases hb : fn.body with
            | none => unfold bodyA at hs; rw [hb] at hs; cases hs
            | some c => exact ⟨c, rfl⟩
          obtain ⟨hc, hname⟩ := (progOk_at hp).2 hf hb
          obtain ⟨x1, x2, x3⟩ := body_ok S (progOk_at hp).1 hb hc hs wf
          have y := fun (tmps : Array Value) (Rr : Ending → World → Prop) => leave_ok S hp (fn := fn) (tmps := tmps) (Rr := Rr) s.df s.h h2 hl x1
          obtain ⟨y1, y2, _⟩ := y #[] (fun _ _ => True)
          refine ⟨y1, x2.trans y2, fun g hg => ?_, fun g hg => ?_, fun l hl => by cases hl⟩
          · injection hg with hg; subst hg; exact ⟨fn, c, hf, hb, hname⟩
          · injection hg with hg; subst hg
            intro n B w0 M X w args' ha R hM agree
            refine callsIn_of_wp_marks hf hb trivial ?_
            refine x3 ha R (fun id e1 e2 => hM id e1 (Nat.lt_of_lt_of_le e2 y2.n)) agree fun e a' M' w' hex st ra => ?_
            have main : LeavesInM (fen none) n P fn a'.tmps (Back B w0 M X h (v, h2)) a'.defers .returning w' := by
              obtain ⟨_, _, y3⟩ := y a'.tmps (Back B w0 M X h (v, h2))
              refine y3 ra.df st.rel (st.free x2.n hM) (ovr_agree X) fun M2 w2 st2 => ?_
              have stA := st.andThen x2.n y2.n st2
              obtain ⟨v', hv1, hv2⟩ := results_ok (P := P) (s := { s with h := h2 }) hres (ra.tm.mono st2.le) stA.rel (ovr_agree X) y1
              exact ⟨v', hv1, v', rfl, M2, stA, hv2⟩
            rcases hex with rfl | rfl <;> exact main
        · cases e
      · cases e
    · cases e
  · cases e

/-! ### A round -/
theorem bif_some' {α : Type} {b : Bool} {x : Option α} {r : α} (e : (bif b then x else none) = some r) : b = true ∧ x = some r := by cases b <;> simp_all
theorem setAll_ok : ∀ {tm : List AV} {ps : List Tmp} {args : List AV} {tmps : Array Value} {args' : List Value}, RVs M tm tmps.toList → RVs M args args' → args.length = ps.length →
    RVs M (setAll tm ps args) (((ps.zip args').foldl (fun (tmps : Array Value) (x : Tmp × Value) => tmps.setIfInBounds x.1 x.2) tmps).toList)
  | tm, [], [], tmps, args', ht, ha, _ => by cases ha; simpa [setAll] using ht
  | tm, [], _ :: _, tmps, args', ht, ha, hl => by simp at hl
  | tm, _ :: _, [], tmps, args', ht, ha, hl => by simp at hl
  | tm, p :: ps, a :: args, tmps, args', ht, ⟨v, rest, e, hv, hr⟩, hl => by
    subst e
    simp only [setAll, List.zip_cons_cons, List.foldl_cons]
    refine setAll_ok ?_ hr (by simpa using hl)
    rw [Array.toList_setIfInBounds]; exact ht.set p hv

def jumpOf : Ex → Option Code
  | .normal => none
  | .ret => some .ret
  | .exit id => some (.exit id)
theorem round_ok {inv : Inv} (S : InvOk P inv) (hp : progOk P = true) {k l : Nat} {args : List AV} {r : AV × AH} (e : roundA P inv k l args h = some r) (wf : h.WF) : Calling P (.yield l) args h r := by
  have hmix := (progOk_at hp).1
  unfold roundA at e
  split at e
  · rename_i st0 pd0 tm ps assign body hg
    have e := bif_some' e
    obtain ⟨hlen, e⟩ := e
    simp only [Bool.and_eq_true, beq_iff_eq] at hlen
    obtain ⟨⟨hca, hcb⟩, hlen⟩ := hlen
    split at e
    · rename_i s1 h1
      split at e
      · rename_i pend tm1 ps1 a1_1 b1 hg1
        split at e
        · rename_i ex s2 h2
          split at e
          · rename_i st3 pd3 tm3 ps3 a3 b3 hdf hg3
            obtain ⟨x1, x2, x3⟩ := code_ok S hmix k assign hca _ _ _ h1 wf
            have hlt1 := x1.lt hg1
            obtain ⟨y1, y2, y3⟩ := code_ok S hmix k body hcb _ _ _ h2 (x1.set hlt1 _)
            have hlt3 := y1.lt hg3
            have y2' : Ext s1.h s2.h := (Ext.set _ _ _).trans y2
            have hr : r = (.bool (jumpOf ex).isNone, s2.h.set l (.loop (if (jumpOf ex).isNone then .ready else .done) (jumpOf ex) tm3 ps3 a3 b3)) := by
              cases ex <;> (injection e with e; exact e.symm)
            clear e
            subst hr
            refine ⟨y1.set hlt3 _, (x2.trans y2').trans (.set _ _ _), fun f hf => (by cases hf), fun f hf => (by cases hf), fun l' hl' => ?_⟩
            injection hl' with hl'; subst hl'
            intro n B w0 M X w args' p ha R hM agree hp1
            obtain ⟨o, hox, hoo⟩ := R.obj _ _ hp1
            rw [agree _ (wf.lt hg), hg] at hox; injection hox with hox; subst hox
            obtain ⟨L, hL, hst, hpd, htm, hps, has, hbd, hB, _⟩ := hoo
            have hsz : args'.size = L.params.size := by
              have h1 := ha.length
              have h2 := congrArg List.length hps
              simp at h1 h2; omega
            refine ⟨L.fn, _, L.assign, L.body, run_yield hL hsz, ?_⟩
            have hra : RA M { tm := setAll tm ps args, df := [], h := h } { tmps := (L.params.zip args').foldl (fun (tmps : Array Value) (x : Tmp × Value) => tmps.setIfInBounds x.1 x.2) L.tmps, defers := [] } := by
              refine ⟨?_, rfl⟩
              have := setAll_ok (ps := ps) htm ha hlen
              rw [← Array.foldl_toList, Array.toList_zip, hps]; exact this
            have n13 : s1.h.n ≤ s2.h.n := y2'.n
            refine roundIn_of_wpIn (F := fen none) trivial ?_
            rw [has, hbd]
            refine x3 (ro := some p.blk) ⟨p, hp1, rfl⟩ hra R (fun id e1 e2 => hM id e1 (by rw [AH.set_n]; omega)) agree fun a1 M1 w1 st1 ra1 => ?_
            have hp2 := st1.le.1 _ _ hp1
            obtain ⟨o, hox, hoo⟩ := st1.rel.obj _ _ hp2
            rw [ovr_agree _ _ hlt1, hg1] at hox; injection hox with hox; subst hox
            obtain ⟨L1, hL1, hst1, hpd1, htm1, hps1, has1, hbd1, hB1, hca1, hcb1⟩ := hoo
            have hlw1 := (Array.getElem?_eq_some_iff.1 hL1).1
            have st2 := Stp.setR (h := s1.h) st1.rel x1 (ovr_agree _) hp2 hg1 (by simp) (by simp) hB1 (o := .loop .busy pend tm1 ps1 a1_1 b1) (obj := .loop { L1 with state := .busy })
              ⟨_, World.putObj_heap_same hlw1, rfl, hpd1, htm1, hps1, has1, hbd1, hB1, hca1, hcb1⟩
            refine ⟨_, run_beginRound hL1 hst1, ?_⟩
            have st12 := st1.andThen (h2 := s1.h.set l (.loop .busy pend tm1 ps1 a1_1 b1)) x2.n (Nat.le_refl s1.h.n) st2
            refine y3 (ro := some p.blk) ⟨p, hp2, rfl⟩ ⟨ra1.tm, ra1.df⟩ st12.rel (st12.free (h2 := s2.h) x2.n fun id e1 e2 => hM id e1 (by rw [AH.set_n]; omega)) (ovr_agree X) fun a2 M2 w3 st3 ra2 => ?_
            have stA := st12.andThen (h1 := s1.h.set l (.loop .busy pend tm1 ps1 a1_1 b1)) (h2 := s2.h) x2.n n13 st3
            have hp3 := st3.le.1 _ _ hp2
            obtain ⟨o, hox, hoo⟩ := stA.rel.obj _ _ hp3
            rw [ovr_agree _ _ hlt3, hg3] at hox; injection hox with hox; subst hox
            obtain ⟨L3, hL3, hst3, hpd3, htm3, hps3, has3, hbd3, hB3, hca3, hcb3⟩ := hoo
            have hlw3 := (Array.getElem?_eq_some_iff.1 hL3).1
            have st4 := Stp.setR (h := s2.h) stA.rel y1 (ovr_agree _) hp3 hg3 (by simp) (by simp) hB3 (o := .loop (if (jumpOf ex).isNone then .ready else .done) (jumpOf ex) tm3 ps3 a3 b3)
              (obj := .loop { L3 with state := if (jumpOf ex).isNone then .ready else .done, pending := jumpOf ex })
              ⟨_, World.putObj_heap_same hlw3, rfl, rfl, htm3, hps3, has3, hbd3, hB3, hca3, hcb3⟩
            have stE := stA.andThen (h2 := s2.h.set l (.loop (if (jumpOf ex).isNone then .ready else .done) (jumpOf ex) tm3 ps3 a3 b3)) (Nat.le_trans x2.n n13) (Nat.le_refl s2.h.n) st4
            have hend := run_endRound (P := P) (jumpOf ex) hL3
            have hback : Back B w0 M X h (.bool (jumpOf ex).isNone, s2.h.set l (.loop (if (jumpOf ex).isNone then .ready else .done) (jumpOf ex) tm3 ps3 a3 b3)) (.returned (.bool (jumpOf ex).isNone)) _ := ⟨_, rfl, M2, stE, rfl⟩
            cases ex with
            | normal => exact ⟨_, _, hend, hback⟩
            | ret => exact ⟨_, _, hend, hback⟩
            | exit id => exact ⟨_, _, hend, hback⟩
          · cases e
        · cases e
      · cases e
    · cases e
  · cases e

/-! ### The machine, whole -/
/-- What is told of functions holds of them. -/
def SigOk (P : Program) (sig : Sig) : Prop := ∀ f g, sig f = some g → ∀ args h r, g args h = some r → h.WF → Calling P (.fn f) args h r

theorem runA_ok {sig : Sig} (hp : progOk P = true) (hs : SigOk P sig) : ∀ k, InvOk P (runA P sig k) := by
  intro k
  induction k with
  | zero => intro t args h r e; cases e
  | succ k ih =>
    have S : InvOk P (fun t args h => match t with
      | .fn f => match sig f with
        | some g => g args h
        | none => runA P sig k (.fn f) args h
      | .yield l => runA P sig k (.yield l) args h) := by
      intro t args h r e wf
      cases t with
      | fn f =>
        simp only at e
        split at e
        · rename_i g hg; exact hs f g hg args h r e wf
        · exact ih _ _ _ _ e wf
      | yield l => exact ih _ _ _ _ e wf
    intro t args h r e wf
    cases t with
    | fn f => exact callFn_ok S hp e wf
    | yield l => exact round_ok S hp e wf
end
end Go.Ai
