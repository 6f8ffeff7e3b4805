/- What an operation does in the model, where the abstract machine does it: copy, clear; all operations together. -/
import Derived.Test.YthllmdjcogjkoaaDoorAi10
import Derived.Lib.UnsafeStr
namespace Go.Ai
set_option linter.unusedSimpArgs false
set_option linter.unusedVariables false

section
variable {P : Program} {B : Nat} {w0 w : World} {M : Mp} {X : Nat → Option AO} {h h' : AH} {t : TypeId} {z x : AV} {x' : Value}

theorem copyA_ok {ats : Array TypeId} {ut : TypeId} {args : List AV} {args' : Array Value} {r : AV × AH} (e : copyA P h ats.toList args = some r) (ha : RVs M args args'.toList)
    (R : Rel B w0 M X w) (wf : h.WF) (agree : ∀ id, id < h.n → X id = h.get id) :
    r.2.WF ∧ Ext h r.2 ∧ r.2.n = h.n ∧ ∃ w' v', Rel B w0 M (ovr r.2 X) w' ∧ RV M r.1 v' ∧ (Builtin.copy_ ats ut args').run P w = .ok v' w' := by
  unfold copyA at e
  split at e
  · rename_i dt _ d x hats
    obtain ⟨d', _, e1, hd, x', _, rfl, hx, hnil⟩ := ha
    cases hnil
    obtain rfl : args' = #[d', x'] := by apply Array.ext'; rw [e1]
    have h0 : ats[0]? = some dt := by have := congrArg (·[0]?) hats; simpa using this
    split at e
    · simp at e
    · rename_i el hel
      have hu : P.underlying dt = some (.slice el) := by unfold sliceElem at hel; split at hel <;> simp_all
      split at e
      · rename_i z n id off len cap hz hn
        obtain ⟨p, c, hp, rfl, hlc, hcap⟩ := hd
        split at e
        · rename_i cs hf
          split at e
          · rename_i h2 hst
            injection e with e; subst e
            obtain ⟨cs', h1, h2'⟩ := firstA_ok (P := P) hf hx R agree wf
            obtain ⟨g1, g2, g3, w', g4, g5⟩ := storeCellsA_ok (P := P) hst hp h2' R wf agree
            refine ⟨g1, g2, g3, w', .int .i64 (min n len : Nat), g4, rfl, ?_⟩
            have hm : Nat.min n len = min n len := rfl
            simp only [Builtin.copy_, h0, List.getElem?_toArray, List.getElem?_cons_zero, List.getElem?_cons_succ, Sem.run_bind, run_underlying hu, Result.andThen_ok, lenOfA_ok hn hx, hm, run_sizeOf hz, h1, g5, Sem.run_pure, goInt]
          · simp at e
        · simp at e
      · rename_i z n hz hn
        injection e with e; subst e
        cases hd
        refine ⟨wf, .refl _, rfl, w, .int .i64 0, by rw [ovr_same agree]; exact R, rfl, ?_⟩
        have hm : Nat.min n 0 = 0 := Nat.min_zero n
        have hf : ∃ cs', (Builtin.firstCells z 0 x').run P w = .ok cs' w := by
          unfold lenOfA at hn
          split at hn <;> (try (simp at hn; done))
          · cases hx; exact ⟨_, rfl⟩
          · obtain ⟨p, a, c, hp, rfl, _⟩ := hx; exact ⟨#[], by simp [Builtin.firstCells, loadCells, loadCellsFrom]⟩
          · obtain ⟨p, c, hp, rfl, _⟩ := hx; exact ⟨#[], by simp [Builtin.firstCells, loadCells, loadCellsFrom]⟩
          · cases hx; exact ⟨_, rfl⟩
          · obtain ⟨a, c, rfl, _⟩ := hx; exact ⟨#[], by cases a <;> simp [Builtin.firstCells, loadCells, loadCellsFrom]⟩
        obtain ⟨cs', hf⟩ := hf
        simp only [Builtin.copy_, h0, List.getElem?_toArray, List.getElem?_cons_zero, List.getElem?_cons_succ, Sem.run_bind, run_underlying hu, Result.andThen_ok, lenOfA_ok hn hx, hm, run_sizeOf hz, hf, Sem.run_pure, goInt]
        rfl
      · simp at e
  · simp at e

theorem clearA_ok {ats : Array TypeId} {ut : TypeId} {args : List AV} {args' : Array Value} (e : clearA P h ats.toList args = some h') (ha : RVs M args args'.toList)
    (R : Rel B w0 M X w) (wf : h.WF) (agree : ∀ id, id < h.n → X id = h.get id) :
    h'.WF ∧ Ext h h' ∧ h'.n = h.n ∧ ∃ w', Rel B w0 M (ovr h' X) w' ∧ (Builtin.clear_ ats ut args').run P w = .ok (.tuple #[]) w' := by
  unfold clearA at e
  split at e
  · rename_i t _ x hats
    obtain ⟨x', _, e1, hx, hnil⟩ := ha
    cases hnil
    obtain rfl : args' = #[x'] := by apply Array.ext'; rw [e1]
    have h0 : ats[0]? = some t := by have := congrArg (·[0]?) hats; simpa using this
    split at e
    · rename_i u hu
      cases hx
      injection e with e; subst e
      refine ⟨wf, .refl _, rfl, w, by rw [ovr_same agree]; exact R, ?_⟩
      simp only [Builtin.clear_, h0, List.getElem?_toArray, List.getElem?_cons_zero, Sem.run_bind, run_underlying hu, Result.andThen_ok]
      rfl
    · rename_i u id off zz hu
      obtain ⟨p, a, c, hp, rfl, hcap⟩ := hx
      injection e with e; subst e
      refine ⟨wf, .refl _, rfl, w, by rw [ovr_same agree]; exact R, ?_⟩
      simp only [Builtin.clear_, h0, List.getElem?_toArray, List.getElem?_cons_zero, Sem.run_bind, run_underlying hu, Result.andThen_ok]
      rfl
    · rename_i u hu
      cases hx
      injection e with e; subst e
      refine ⟨wf, .refl _, rfl, w, by rw [ovr_same agree]; exact R, ?_⟩
      simp only [Builtin.clear_, h0, List.getElem?_toArray, List.getElem?_cons_zero, Sem.run_bind, run_underlying hu, Result.andThen_ok]
      rfl
    · rename_i el id off len cap hu
      obtain ⟨p, c, hp, rfl, hlc, hcap⟩ := hx
      split at e
      · rename_i zs hz
        obtain ⟨v, n, h1, h2, h3, h4⟩ := zeroCellsA_ok (P := P) (w := w) (M := M) hz
        have hvl : v.cells.size = n := by have := h2.length; simp at this; omega
        have hzr := zeroRow h2 h4 len (if len * n = 0 then #[] else v.cells) rfl
        cases len with
        | zero =>
          have : zerosA zs 0 = [] := rfl
          rw [this] at e
          simp only [storeCellsA, Option.some.injEq] at e
          subst e
          refine ⟨wf, .refl _, rfl, w, by rw [ovr_same agree]; exact R, ?_⟩
          simp only [Builtin.clear_, h0, List.getElem?_toArray, List.getElem?_cons_zero, Sem.run_bind, run_underlying hu, Result.andThen_ok, Sem.run_pure]
        | succ len =>
          have hzr : RVs M (zerosA zs (len + 1)) (Builtin.zeroCells v.cells (len + 1)).toList := by
            unfold Builtin.zeroCells
            rw [hvl]
            by_cases hn0 : (len + 1) * n = 0
            · rw [hn0]
              have : zerosA zs (len + 1) = [] := by
                apply List.length_eq_zero_iff.1
                unfold zerosA; simp [h4]; simpa using hn0
              rw [this]; simp [RVs]
            · rw [if_neg hn0] at hzr
              rw [← hvl] at hzr ⊢
              exact hzr
          obtain ⟨g1, g2, g3, w', g4, g5⟩ := storeCellsA_ok (P := P) e hp hzr R wf agree
          refine ⟨g1, g2, g3, w', g4, ?_⟩
          simp only [Builtin.clear_, h0, List.getElem?_toArray, List.getElem?_cons_zero, Sem.run_bind, run_underlying hu, Result.andThen_ok, h1, g5, Sem.run_pure]
      · simp at e
    · rename_i kt el id hu
      obtain ⟨p, hp, rfl⟩ := hx
      split at e
      · rename_i es c hg
        injection e with e; subst e
        have hlt := wf.lt hg
        obtain ⟨o, hxx, ho⟩ := R.obj id p hp
        rw [agree id hlt, hg] at hxx; injection hxx with hxx; subst hxx
        obtain ⟨es', h1, h2, hB⟩ := ho
        obtain ⟨g1, g2, g3, g4⟩ := map_put (P := P) (es2 := []) (es2' := #[]) (c2 := c) R wf agree hp hg h1 hB rfl
        refine ⟨g1, g2, rfl, _, g3, ?_⟩
        have hget : (getObj p.blk).run P w = .ok (.map es' c) w := by simp [getObj, Sem.run, h1]
        simp only [Builtin.clear_, h0, List.getElem?_toArray, List.getElem?_cons_zero, Sem.run_bind, run_underlying hu, Result.andThen_ok, hget, g4, Sem.run_pure]
      · simp at e
    · simp at e
  · simp at e

theorem foldA_ok {f : AV → AV → Option AV} {g : Value → Value → Sem Value} (hfg : ∀ a b c a' b', f a b = some c → RV M a a' → RV M b b' → ∃ c', (g a' b').run P w = .ok c' w ∧ RV M c c') :
    ∀ {l : List AV} {l' : List Value} {a b : AV} {a' : Value}, foldA f a l = some b → RV M a a' → RVs M l l' → ∃ b', (l'.foldlM g a').run P w = .ok b' w ∧ RV M b b'
  | [], _, a, b, a', e, ha, hl => by
    cases hl
    simp only [foldA, Option.some.injEq] at e; subst e
    exact ⟨a', by simp, ha⟩
  | y :: ys, _, a, b, a', e, ha, ⟨v, rest, e1, hv, hs⟩ => by
    subst e1
    simp only [foldA] at e
    split at e
    · rename_i z hz
      obtain ⟨c', h1, h2⟩ := hfg _ _ _ _ _ hz ha hv
      obtain ⟨b', h3, h4⟩ := foldA_ok hfg e h2 hs
      exact ⟨b', by simp only [List.foldlM_cons, Sem.run_bind, h1, Result.andThen_ok, h3], h4⟩
    · simp at e
theorem max2A_ok {a b c : AV} {a' b' : Value} (e : max2A a b = some c) (ha : RV M a a') (hb : RV M b b') : ∃ c', (Builtin.max2 a' b').run P w = .ok c' w ∧ RV M c c' := by
  unfold max2A at e
  split at e
  · cases ha; cases hb; injection e with e; subst e; exact ⟨_, rfl, rfl⟩
  · simp at e
theorem min2A_ok {a b c : AV} {a' b' : Value} (e : min2A a b = some c) (ha : RV M a a') (hb : RV M b b') : ∃ c', (Builtin.min2 a' b').run P w = .ok c' w ∧ RV M c c' := by
  unfold min2A at e
  split at e
  · cases ha; cases hb; injection e with e; subst e; exact ⟨_, rfl, rfl⟩
  · simp at e

/-- What a step of memory comes to: everything below the heap's size is told anew. -/
def Strong (P : Program) (B : Nat) (w0 : World) (M : Mp) (X : Nat → Option AO) (h : AH) (w : World) (r : AV × AH) (s : Sem Value) : Prop :=
  r.2.WF ∧ Ext h r.2 ∧ ∃ M' w' v', Stp B w0 M h r.2 (ovr r.2 X) M' w' ∧ RV M' r.1 v' ∧ s.run P w = .ok v' w'
theorem Strong.of_same {h2 : AH} {s : Sem Value} {v : AV} (H : h2.WF ∧ Ext h h2 ∧ h2.n = h.n ∧ ∃ w' v', Rel B w0 M (ovr h2 X) w' ∧ RV M v v' ∧ s.run P w = .ok v' w') : Strong P B w0 M X h w (v, h2) s :=
  let ⟨a, b, c, w', v', d, e, f⟩ := H
  ⟨a, b, M, w', v', ⟨.refl _, fun _ e _ => e, d⟩, e, f⟩
/-- .. the new blocks alone. -/
def Weak (P : Program) (B : Nat) (w0 : World) (M : Mp) (X : Nat → Option AO) (h : AH) (w : World) (r : AV × AH) (s : Sem Value) : Prop :=
  (r.2 = h ∨ ∃ o, r.2 = h.push o) ∧ ∃ M' w' v', Stp B w0 M h r.2 (ovw h r.2 X) M' w' ∧ RV M' r.1 v' ∧ s.run P w = .ok v' w'
theorem Weak.pure {v : AV} {s : Sem Value} (R : Rel B w0 M X w) (H : ∃ v', s.run P w = .ok v' w ∧ RV M v v') : Weak P B w0 M X h w (v, h) s :=
  let ⟨v', a, b⟩ := H
  ⟨.inl rfl, M, w, v', Stp.same R h (fun _ _ _ => by rw [ovw_same]), b, a⟩
theorem Weak.strong {r : AV × AH} {s : Sem Value} (wf : h.WF) (agree : ∀ id, id < h.n → X id = h.get id) (H : Weak P B w0 M X h w r s) : Strong P B w0 M X h w r s := by
  obtain ⟨h1, M', w', v', h2, h3, h4⟩ := H
  have hovr : ∀ o, ovr (h.push o) X = ovw h (h.push o) X := by
    intro o
    funext id
    unfold ovr ovw
    rw [AH.push_n, AH.get_push]
    by_cases e : id = h.n
    · rw [if_pos (by omega), if_pos e, if_pos (by omega)]
    · rw [if_neg e]
      by_cases e2 : id < h.n + 1
      · rw [if_pos e2, if_neg (by omega)]; exact (agree id (by omega)).symm
      · rw [if_neg e2, if_neg (by omega)]
  rcases h1 with h1 | ⟨o, h1⟩
  · refine ⟨h1 ▸ wf, h1 ▸ .refl _, M', w', v', ?_, h3, h4⟩
    rw [h1] at h2 ⊢
    rw [ovw_same] at h2; rw [ovr_same agree]; exact h2
  · refine ⟨h1 ▸ wf.push o, h1 ▸ .push _ o, M', w', v', ?_, h3, h4⟩
    rw [h1] at h2 ⊢
    rw [hovr]; exact h2
theorem Weak.of_push {r : AV × AH} {s : Sem Value} (H : ∃ o, r.2 = h.push o ∧ ∃ M' w' p', Stp B w0 M h r.2 (ovw h r.2 X) M' w' ∧ RV M' r.1 p' ∧ s.run P w = .ok p' w') : Weak P B w0 M X h w r s :=
  let ⟨o, a, b⟩ := H
  ⟨.inr ⟨o, a⟩, b⟩

/-- What is carried out, as a value. -/
def asVal (s : Sem Value) : Sem Next := do pure (.value (← s))
theorem run_asVal {s : Sem Value} {v : Value} {w' : World} (e : s.run P w = .ok v w') : (asVal s).run P w = .ok (.value v) w' := by
  simp only [asVal, Sem.run_bind, e, Result.andThen_ok, Sem.run_pure]

variable {ρA : Operand → Option AV} {ρ : Operand → Value}

/-- What an operation reads that writes nothing that was there. -/
def lightA (ρA : Operand → Option AV) (op : Op) : Option (List Nat) := if pureOp op then some [] else readsA ρA op

theorem optOpt_ok {ρA : Operand → Option AV} {ρ : Operand → Value} (hρ : ∀ x a, ρA x = some a → RV M a (ρ x)) {x : Option Operand} {a : Option AV} (e : optOpt ρA x = some a) :
    (∀ b, a = some b → ∃ v, x.map ρ = some v ∧ RV M b v) ∧ (a = none → x.map ρ = none) := by
  cases x with
  | none => simp only [optOpt, Option.some.injEq] at e; subst e; simp
  | some x =>
    simp only [optOpt, Option.map_eq_some_iff] at e
    obtain ⟨b, hb, rfl⟩ := e
    exact ⟨fun c hc => by injection hc with hc; subst hc; exact ⟨ρ x, rfl, hρ _ _ hb⟩, by simp⟩

theorem newVarA_n {v : AV} {r : AV × AH} (e : newVarA h v = some r) : r.2.n = h.n + 1 := by
  unfold newVarA at e; split at e
  · injection e with e; subst e; rfl
  · simp at e
theorem allocA_n {v : AV} {r : AV × AH} (e : allocA P h t v = some r) : r.2.n = h.n + 1 := by
  unfold allocA at e
  cases hb : isBld P t with
  | false => rw [hb] at e; exact newVarA_n e
  | true =>
    rw [hb] at e; simp only [cond_true] at e
    split at e
    · injection e with e; subst e; rfl
    · simp at e
theorem makeMapA_n {m : Option AV} {r : AV × AH} (e : makeMapA P h t m = some r) : r.2.n = h.n + 1 := by
  unfold makeMapA at e
  split at e
  · injection e with e; subst e; rfl
  · split at e
    · injection e with e; subst e; rfl
    · simp at e
  · simp at e
theorem makeSliceA_n {a b : AV} {r : AV × AH} (e : makeSliceA P h t a b = some r) : r.2.n = h.n + 1 := by
  unfold makeSliceA at e
  split at e
  · split at e
    · simp only [Bool.cond_decide] at e
      split at e
      · injection e with e; subst e; rfl
      · simp at e
    · simp at e
  · simp at e
theorem buildSliceA_n {len : Nat} {ps : List (Nat × AV)} {r : AV × AH} (e : buildSliceA P h t len ps = some r) : r.2.n = h.n + 1 := by
  unfold buildSliceA at e
  repeat' split at e
  all_goals first | (simp at e; done) | skip
  rw [Bool.cond_decide] at e
  split at e
  · injection e with e; subst e; rfl
  · simp at e

theorem lightOp_ok (hρ : ∀ x a, ρA x = some a → RV M a (ρ x)) {o : Oper} {r : AV × AH} {l : List Nat} (e : opA P ρA o.op h = some r) (hl : lightA ρA o.op = some l)
    (R : Rel B w0 M X w) (hM : ∀ id, h.n ≤ id → id < r.2.n → M id = none) (agree : ∀ id, id ∈ l → X id = h.get id) :
    ∃ s, Weak P B w0 M X h w r s ∧ (execOp ρ o).run P w = (asVal s).run P w := by
  unfold execOp
  cases hop : o.op <;> simp only [hop, lightA, pureOp, readsA, if_true, Bool.false_eq_true, if_false, reduceCtorEq, Option.some.injEq] at hl <;> (simp only [hop, opA] at e)
  case move x =>
    simp only [Option.map_eq_some_iff] at e
    obtain ⟨v, hv, rfl⟩ := e
    exact ⟨Pure.pure (ρ x), .pure R ⟨_, rfl, hρ _ _ hv⟩, rfl⟩
  case assign x =>
    simp only [Option.map_eq_some_iff] at e
    obtain ⟨v, hv, rfl⟩ := e
    exact ⟨Pure.pure (ρ x), .pure R ⟨_, rfl, hρ _ _ hv⟩, rfl⟩
  case pick c a b =>
    split at e
    · rename_i hc
      have hc' := hρ _ _ hc
      simp only [Option.map_eq_some_iff] at e
      obtain ⟨v, hv, rfl⟩ := e
      refine ⟨Pure.pure (ρ a), .pure R ⟨_, rfl, hρ _ _ hv⟩, ?_⟩
      have hcv : ρ c = _ := hc'
      simp only [hcv, asBool, asVal, Sem.run_bind, Sem.run_pure, Result.andThen_ok]
      rfl
    · rename_i hc
      have hc' := hρ _ _ hc
      simp only [Option.map_eq_some_iff] at e
      obtain ⟨v, hv, rfl⟩ := e
      refine ⟨Pure.pure (ρ b), .pure R ⟨_, rfl, hρ _ _ hv⟩, ?_⟩
      have hcv : ρ c = _ := hc'
      simp only [hcv, asBool, asVal, Sem.run_bind, Sem.run_pure, Result.andThen_ok]
      rfl
    · simp at e
  case alloc el =>
    split at e
    · rename_i zz hz
      obtain ⟨zv, h1, h2⟩ := run_zeroValue (P := P) (w := w) (M := M) hz
      obtain ⟨o, q1, M', w', p', q2, q3, q4⟩ := allocA_ok (P := P) el e h2 R (hM h.n (Nat.le_refl _) (allocA_n e ▸ Nat.lt_succ_self _))
      refine ⟨Instr.alloc el true (.tuple #[]), ⟨.inr ⟨o, q1⟩, M', w', p', q2, q3, ?_⟩, rfl⟩
      simp only [Instr.alloc, Sem.run_bind, h1, Result.andThen_ok]
      simp only [Sem.run_bind] at q4
      exact q4
    · simp at e
  case box el x =>
    split at e
    · rename_i v hv
      exact ⟨Instr.box el (ρ x), .of_push (newVarA_ok (P := P) e (hρ _ _ hv) R (hM h.n (Nat.le_refl _) (newVarA_n e ▸ Nat.lt_succ_self _)) el), rfl⟩
    · simp at e
  case build t ps =>
    split at e
    · rename_i vs hvs
      simp only [Option.map_eq_some_iff] at e
      obtain ⟨v, hv, rfl⟩ := e
      have := mapOpt_RPs hρ hvs
      exact ⟨Instr.build t (ps.map fun (i, x) => (i, ρ x)), .pure R (buildA_ok hv (by simpa using this)), rfl⟩
    · simp at e
  case buildSlice t len ps =>
    split at e
    · rename_i vs hvs
      have := mapOpt_RPs hρ hvs
      exact ⟨Instr.buildSlice t len (ps.map fun (i, x) => (i, ρ x)), .of_push (buildSliceA_ok e (by simpa using this) R (hM h.n (Nat.le_refl _) (buildSliceA_n e ▸ Nat.lt_succ_self _))), rfl⟩
    · simp at e
  case load t a =>
    split at e
    · rename_i av hv
      simp only [Option.map_eq_some_iff] at e
      obtain ⟨v, hv2, rfl⟩ := e
      rw [hv] at hl
      refine ⟨Instr.loadAt t (ρ a), .pure R (loadA_ok hv2 (hρ _ _ hv) R fun id off ha => ?_), rfl⟩
      subst ha
      simp only [Option.some.injEq] at hl
      exact agree id (by rw [← hl]; simp)
    · simp at e
  case nilCheck x =>
    split at e <;> first | (simp at e; done) | skip
    all_goals
      rename_i hv
      injection e with e; subst e
      have hx := hρ _ _ hv
    · obtain ⟨p, hp, hpv⟩ := hx
      exact ⟨Pure.pure (ρ x), .pure R ⟨_, rfl, ⟨p, hp, hpv⟩⟩, by simp only [hpv]; rfl⟩
    · obtain ⟨b, o, arr, hpv, h1⟩ := hx
      exact ⟨Pure.pure (ρ x), .pure R ⟨_, rfl, ⟨b, o, arr, hpv, h1⟩⟩, by simp only [hpv]; rfl⟩
    · obtain ⟨xs, ys, hpv, h1, h2⟩ := hx
      exact ⟨Pure.pure (ρ x), .pure R ⟨_, rfl, ⟨xs, ys, hpv, h1, h2⟩⟩, by simp only [hpv]; rfl⟩
    · obtain ⟨p, hp, hpv⟩ := hx
      exact ⟨Pure.pure (ρ x), .pure R ⟨_, rfl, ⟨p, hp, hpv⟩⟩, by simp only [hpv]; rfl⟩
  case binOp op t x y _ =>
    split at e
    · rename_i a b ha hb
      cases hg : guardA P op t x y a b with
      | false => simp [hg] at e
      | true =>
        simp only [hg, cond_true, Option.map_eq_some_iff] at e
        obtain ⟨v, hv, rfl⟩ := e
        refine ⟨do eqGuard op t x y (ρ x) (ρ y); Go.binOp op t (ρ x) (ρ y), .pure R ?_, rfl⟩
        obtain ⟨v', h1, h2⟩ := binA_ok (P := P) (w := w) hv (hρ _ _ ha) (hρ _ _ hb)
        exact ⟨v', by simp only [Sem.run_bind, guardA_ok (P := P) (w := w) hg (hρ _ _ ha) (hρ _ _ hb), Result.andThen_ok, h1], h2⟩
    · simp at e
  case unOp op t x =>
    split at e
    · rename_i a ha
      simp only [Option.map_eq_some_iff] at e
      obtain ⟨v, hv, rfl⟩ := e
      exact ⟨Op.unary op (ρ x), .pure R (unaryA_ok hv (hρ _ _ ha)), rfl⟩
    · simp at e
  case convert a b x =>
    split at e
    · rename_i a ha
      simp only [Option.map_eq_some_iff] at e
      obtain ⟨v, hv, rfl⟩ := e
      exact ⟨Go.convert _ _ (ρ x), .pure R (convertA_ok hv (hρ _ _ ha)), rfl⟩
    · simp at e
  case makeInterface t x =>
    split at e
    · simp at e
    · rename_i d v hne hd hv
      injection e with e; subst e
      refine ⟨Instr.makeInterface t (ρ x), .pure R ⟨.iface t (ρ x), ?_, ρ x, rfl, hρ _ _ hv⟩, rfl⟩
      simp only [Instr.makeInterface, Sem.run_bind, run_underlying hd, Result.andThen_ok]
      cases d <;> first | rfl | exact (hne _ rfl).elim
    · simp at e
  case makeFunc fn xs ys =>
    split at e
    · rename_i f vs us hv hu
      injection e with e; subst e
      have h1 := mapOpt_RVs hρ hv
      have h2 := mapOpt_RVs hρ hu
      exact ⟨Instr.makeFunc _ (xs.map ρ) (ys.map ρ), .pure R ⟨.func _ (xs.map ρ) (ys.map ρ), rfl, _, _, rfl, by simpa using h1, by simpa using h2⟩, rfl⟩
    · simp at e
  case makeMap t x =>
    split at e
    · rename_i m hm
      obtain ⟨h1, h2⟩ := optOpt_ok hρ hm
      exact ⟨Instr.makeMap t (x.map ρ), .of_push (makeMapA_ok e h1 h2 R (hM h.n (Nat.le_refl _) (makeMapA_n e ▸ Nat.lt_succ_self _))), rfl⟩
    · simp at e
  case makeSlice t x y =>
    split at e
    · rename_i a b ha hb
      exact ⟨Instr.makeSlice t (ρ x) (ρ y), .of_push (makeSliceA_ok e (hρ _ _ ha) (hρ _ _ hb) R (hM h.n (Nat.le_refl _) (makeSliceA_n e ▸ Nat.lt_succ_self _))), rfl⟩
    · simp at e
  case slice t x lo hi mx =>
    split at e
    · rename_i a b c d ha hb hc hd
      simp only [Option.map_eq_some_iff] at e
      obtain ⟨v, hv, rfl⟩ := e
      obtain ⟨b1, b2⟩ := optOpt_ok hρ hb
      obtain ⟨c1, c2⟩ := optOpt_ok hρ hc
      obtain ⟨d1, d2⟩ := optOpt_ok hρ hd
      exact ⟨Instr.sliceAt t (ρ x) (lo.map ρ) (hi.map ρ) (mx.map ρ), .pure R (sliceA_ok hv (hρ _ _ ha) b1 b2 c1 c2 d1 d2), rfl⟩
    · simp at e
  case fieldAddr t x f =>
    split at e
    · rename_i a ha
      simp only [Option.map_eq_some_iff] at e
      obtain ⟨v, hv, rfl⟩ := e
      exact ⟨Instr.fieldAt t (ρ x) f, .pure R (fieldAddrA_ok hv (hρ _ _ ha)), rfl⟩
    · simp at e
  case field t x f =>
    split at e
    · rename_i a ha
      simp only [Option.map_eq_some_iff] at e
      obtain ⟨v, hv, rfl⟩ := e
      exact ⟨Instr.field t (ρ x) f, .pure R (fieldA_ok hv (hρ _ _ ha)), rfl⟩
    · simp at e
  case indexAddr t x y =>
    split at e
    · rename_i a b ha hb
      simp only [Option.map_eq_some_iff] at e
      obtain ⟨v, hv, rfl⟩ := e
      exact ⟨Instr.indexAt t (ρ x) (ρ y), .pure R (indexAddrA_ok hv (hρ _ _ ha) (hρ _ _ hb)), rfl⟩
    · simp at e
  case index t x y =>
    split at e
    · rename_i a b ha hb
      simp only [Option.map_eq_some_iff] at e
      obtain ⟨v, hv, rfl⟩ := e
      exact ⟨Instr.index t (ρ x) (ρ y), .pure R (indexA_ok hv (hρ _ _ ha) (hρ _ _ hb)), rfl⟩
    · simp at e
  case lookup t m k ok =>
    split at e
    · rename_i a b ha hb
      simp only [Option.map_eq_some_iff] at e
      obtain ⟨v, hv, rfl⟩ := e
      rw [ha] at hl
      refine ⟨Instr.lookup t (ρ m) (ρ k) ok, .pure R (lookupA_ok hv (hρ _ _ ha) (hρ _ _ hb) R fun id hid => ?_), rfl⟩
      subst hid
      simp only [Option.some.injEq] at hl
      exact agree id (by rw [← hl]; simp)
    · simp at e
  case extract x i =>
    split at e
    · rename_i vs hv
      simp only [Option.map_eq_some_iff] at e
      obtain ⟨v, hv2, rfl⟩ := e
      obtain ⟨vs', hpv, hvs⟩ := hρ _ _ hv
      obtain ⟨v', h1, h2⟩ := hvs.get hv2
      refine ⟨Instr.extract (ρ x) i, .pure R ⟨v', ?_, h2⟩, rfl⟩
      have h1' : vs'[i]? = some v' := by simpa using h1
      simp only [hpv, Instr.extract, h1', Sem.run_pure]
    · simp at e
  case call c =>
    obtain ⟨callee, args, ats⟩ := c
    cases callee <;> simp only [readsA, opA, reduceCtorEq] at hl e
    rename_i b
    split at e
    · rename_i vs hvs
      have hvs' := mapOpt_RVs hρ hvs
      have hargs : (args.map ρ).toList = args.toList.map ρ := by simp
      rw [← hargs] at hvs'
      cases b <;> simp only [readsA, opA, reduceCtorEq] at hl <;> simp only [builtinA] at e
      case len =>
        split at e
        · rename_i t _ x hats
          cases hn : lenA P h t x with
          | none => simp [hn] at e
          | some n =>
          simp only [hn, Option.map_eq_map, Option.bind_eq_bind, Option.bind_some, Option.pure_def, Option.map_some, Option.some.injEq] at e
          subst e
          have h0 : ats[0]? = some t := by have := congrArg (·[0]?) hats; simpa using this
          obtain ⟨x', rest, e1, hx, hs⟩ := hvs'
          have h1 : (args.map ρ)[0]? = some x' := by have := congrArg (·[0]?) e1; simpa using this
          refine ⟨Builtin.len_ ats o.type (args.map ρ), .pure R ⟨_, lenA_ok hn hx h0 h1 R fun id hid => ?_, rfl⟩, ?_⟩
          · subst hid
            rw [hvs] at hl
            simp only [Option.some.injEq] at hl; exact agree id (by rw [← hl]; simp)
          · simp only [resolve, Sem.run_bind, Sem.run_pure, Result.andThen_ok, invoke, Go.builtin, asVal]
        · simp at e
      case cap =>
        split at e
        · rename_i t _ x xs hats
          cases hn : capA P t x with
          | none => simp [hn] at e
          | some n =>
          simp only [hn, Option.map_eq_map, Option.bind_eq_bind, Option.bind_some, Option.pure_def, Option.map_some, Option.some.injEq] at e
          subst e
          have h0 : ats[0]? = some t := by have := congrArg (·[0]?) hats; simpa using this
          obtain ⟨x', rest, e1, hx, hs⟩ := hvs'
          have h1 : (args.map ρ)[0]? = some x' := by have := congrArg (·[0]?) e1; simpa using this
          refine ⟨Builtin.cap_ ats o.type (args.map ρ), .pure R ⟨_, capA_ok hn hx h0 h1, rfl⟩, ?_⟩
          simp only [resolve, Sem.run_bind, Sem.run_pure, Result.andThen_ok, invoke, Go.builtin, asVal]
        · simp at e
      case max =>
        split at e
        · rename_i x xs
          simp only [Option.map_eq_some_iff] at e
          obtain ⟨v, hv, rfl⟩ := e
          obtain ⟨x', rest, e1, hx, hs⟩ := hvs'
          obtain ⟨b', h1, h2⟩ := foldA_ok (P := P) (w := w) (g := Builtin.max2) (fun a b c a' b' => max2A_ok) hv hx hs
          refine ⟨Builtin.max_ ats o.type (args.map ρ), .pure R ⟨b', by simp only [Builtin.max_, e1, h1], h2⟩, ?_⟩
          simp only [resolve, Sem.run_bind, Sem.run_pure, Result.andThen_ok, invoke, Go.builtin, asVal]
        · simp at e
      case min =>
        split at e
        · rename_i x xs
          simp only [Option.map_eq_some_iff] at e
          obtain ⟨v, hv, rfl⟩ := e
          obtain ⟨x', rest, e1, hx, hs⟩ := hvs'
          obtain ⟨b', h1, h2⟩ := foldA_ok (P := P) (w := w) (g := Builtin.min2) (fun a b c a' b' => min2A_ok) hv hx hs
          refine ⟨Builtin.min_ ats o.type (args.map ρ), .pure R ⟨b', by simp only [Builtin.min_, e1, h1], h2⟩, ?_⟩
          simp only [resolve, Sem.run_bind, Sem.run_pure, Result.andThen_ok, invoke, Go.builtin, asVal]
        · simp at e
    · simp at e

/-- What is read is there. -/
theorem light_lt {o : Oper} {r : AV × AH} {l : List Nat} (e : opA P ρA o.op h = some r) (hl : lightA ρA o.op = some l) (wf : h.WF) : ∀ id, id ∈ l → id < h.n := by
  cases hop : o.op <;> simp only [hop, lightA, pureOp, readsA, if_true, Bool.false_eq_true, if_false, reduceCtorEq, Option.some.injEq] at hl <;> (try (subst hl; intro id hid; cases hid; done)) <;> (simp only [hop, opA] at e)
  case load t a =>
    split at hl
    · rename_i id off ha
      rw [ha] at e
      simp only [Option.some.injEq] at hl; subst hl
      intro id' hid; simp only [List.mem_singleton] at hid; subst hid
      rcases Nat.lt_or_ge id' h.n with k | k
      · exact k
      · simp [loadA, cellsAt, wf _ k] at e
    · simp only [Option.some.injEq] at hl; subst hl
      intro id hid; cases hid
    · simp at hl
  case lookup t m k ok =>
    split at hl
    · rename_i id hm
      rw [hm] at e
      simp only [Option.some.injEq] at hl; subst hl
      intro id' hid; simp only [List.mem_singleton] at hid; subst hid
      rcases Nat.lt_or_ge id' h.n with k | k
      · exact k
      · have : mapAt h (.map id') = none := by simp [mapAt, wf _ k]
        split at e
        · rename_i hh _
          injection hh with hh; subst hh
          simp [lookupA, this] at e
        · simp at e
    · simp only [Option.some.injEq] at hl; subst hl
      intro id hid; cases hid
    · simp at hl
  case call c =>
    obtain ⟨callee, args, ats⟩ := c
    cases callee <;> simp only [readsA, opA, reduceCtorEq] at hl e
    rename_i b
    cases b <;> simp only [readsA, opA, reduceCtorEq, Option.some.injEq] at hl <;> (try (subst hl; intro id hid; cases hid; done))
    split at hl
    · rename_i id hm
      rw [hm] at e
      simp only [Option.some.injEq] at hl; subst hl
      intro id' hid; simp only [List.mem_singleton] at hid; subst hid
      rcases Nat.lt_or_ge id' h.n with k | k
      · exact k
      · exfalso
        simp only [builtinA] at e
        split at e
        · rename_i t _ x hats hxx
          injection hxx with hxx _
          subst hxx
          have : lenA P h t (.map id') = none := by
            unfold lenA
            split <;> first | rfl | (rename_i hh; cases hh; done) | skip
            rename_i hh; injection hh with hh; subst hh
            simp [wf _ k]
          simp [this] at e
        · simp at e
    · simp only [Option.some.injEq] at hl; subst hl
      intro id hid; cases hid
    · simp at hl

theorem newVarA_push {v : AV} {r : AV × AH} (e : newVarA h v = some r) : ∃ ob, r.2 = h.push ob := by
  unfold newVarA at e; split at e
  · injection e with e; subst e; exact ⟨_, rfl⟩
  · simp at e
theorem allocA_push {v : AV} {r : AV × AH} (e : allocA P h t v = some r) : ∃ ob, r.2 = h.push ob := by
  unfold allocA at e
  cases hb : isBld P t with
  | false => rw [hb] at e; exact newVarA_push e
  | true =>
    rw [hb] at e; simp only [cond_true] at e
    split at e
    · injection e with e; subst e; exact ⟨_, rfl⟩
    · simp at e
theorem makeMapA_push {m : Option AV} {r : AV × AH} (e : makeMapA P h t m = some r) : ∃ ob, r.2 = h.push ob := by
  unfold makeMapA at e
  split at e
  · injection e with e; subst e; exact ⟨_, rfl⟩
  · split at e
    · injection e with e; subst e; exact ⟨_, rfl⟩
    · simp at e
  · simp at e
theorem makeSliceA_push {a b : AV} {r : AV × AH} (e : makeSliceA P h t a b = some r) : ∃ ob, r.2 = h.push ob := by
  unfold makeSliceA at e
  split at e
  · split at e
    · simp only [Bool.cond_decide] at e
      split at e
      · injection e with e; subst e; exact ⟨_, rfl⟩
      · simp at e
    · simp at e
  · simp at e
theorem buildSliceA_push {len : Nat} {ps : List (Nat × AV)} {r : AV × AH} (e : buildSliceA P h t len ps = some r) : ∃ ob, r.2 = h.push ob := by
  unfold buildSliceA at e
  repeat' split at e
  all_goals first | (simp at e; done) | skip
  rw [Bool.cond_decide] at e
  split at e
  · injection e with e; subst e; exact ⟨_, rfl⟩
  · simp at e

theorem bif_some {α : Type} {b : Bool} {x : Option α} {r : α} (e : (bif b then x else none) = some r) : x = some r := by cases b <;> simp_all
theorem light_h {o : Oper} {r : AV × AH} {l : List Nat} (e : opA P ρA o.op h = some r) (hl : lightA ρA o.op = some l) : (r.2 = h ∨ ∃ ob, r.2 = h.push ob) ∧ (pureOp o.op = true → r.2 = h) := by
  cases hop : o.op <;> simp only [hop, lightA, pureOp, readsA, if_true, Bool.false_eq_true, if_false, reduceCtorEq, Option.some.injEq, false_implies, and_true, forall_const] at hl ⊢ <;> (simp only [hop, opA] at e)
  case alloc el =>
    split at e
    · exact .inr (allocA_push e)
    · cases e
  case box el x =>
    split at e
    · exact .inr (newVarA_push e)
    · cases e
  case buildSlice t len ps =>
    split at e
    · exact .inr (buildSliceA_push e)
    · cases e
  case makeMap t x =>
    split at e
    · exact .inr (makeMapA_push e)
    · cases e
  case makeSlice t x y =>
    split at e
    · exact .inr (makeSliceA_push e)
    · cases e
  case call c =>
    left
    obtain ⟨callee, args, ats⟩ := c
    cases callee <;> simp only [readsA, opA, reduceCtorEq] at hl e
    rename_i b
    split at e
    · cases b <;> simp only [readsA, opA, reduceCtorEq] at hl <;> simp only [builtinA] at e
      all_goals
        split at e
        · simp only [Option.map_eq_some_iff] at e
          obtain ⟨v, _, rfl⟩ := e
          rfl
        · cases e
    · cases e
  case binOp op t x y _ =>
    split at e
    · have e := bif_some e
      simp only [Option.map_eq_some_iff] at e
      obtain ⟨v, _, rfl⟩ := e
      exact ⟨.inl rfl, rfl⟩
    · cases e
  all_goals
    repeat' split at e
    all_goals first
      | (cases e; done)
      | (simp only [Option.map_eq_some_iff] at e; obtain ⟨v, _, rfl⟩ := e; first | exact ⟨.inl rfl, rfl⟩ | exact .inl rfl)
      | (injection e with e; subst e; first | exact ⟨.inl rfl, rfl⟩ | exact .inl rfl)

/-! ### The heap alone -/
theorem set_wf {id : Nat} {o ob : AO} (wf : h.WF) (e : h.get id = some o) : (h.set id ob).WF ∧ Ext h (h.set id ob) := ⟨wf.set (wf.lt e) _, .set _ _ _⟩
theorem push_wf {ob : AO} (wf : h.WF) : (h.push ob).WF ∧ Ext h (h.push ob) := ⟨wf.push _, .push _ _⟩
theorem storeCellsA_wf {id off : Nat} {ns : List AV} (e : storeCellsA h id off ns = some h') (wf : h.WF) : h'.WF ∧ Ext h h' := by
  unfold storeCellsA at e
  split at e
  · injection e with e; subst e; exact ⟨wf, .refl _⟩
  · split at e
    · rename_i hg
      have e := bif_some e
      injection e with e; subst e
      exact set_wf wf hg
    · rename_i hg
      have e := bif_some e
      injection e with e; subst e
      exact set_wf wf hg
    · cases e
theorem appendA_wf {ats : List TypeId} {args : List AV} {r : AV × AH} (e : appendA P h ats args = some r) (wf : h.WF) : r.2.WF ∧ Ext h r.2 := by
  unfold appendA at e
  split at e
  · split at e
    · cases e
    · split at e
      · split at e
        · cases e
        · split at e
          · rw [Bool.cond_decide] at e
            split at e
            · injection e with e; subst e; exact ⟨wf, .refl _⟩
            · have e := bif_some e
              injection e with e; subst e; exact push_wf wf
          · rw [Bool.cond_decide] at e
            split at e
            · split at e
              · rename_i hs; injection e with e; subst e; exact storeCellsA_wf hs wf
              · cases e
            · have e := bif_some e
              split at e
              · injection e with e; subst e; exact push_wf wf
              · cases e
          · have e := bif_some e
            rw [Bool.cond_decide] at e
            split at e
            · injection e with e; subst e; exact ⟨wf, .refl _⟩
            · split at e
              · rename_i hg
                rw [Bool.cond_decide] at e
                split at e
                · split at e
                  · rename_i hs; injection e with e; subst e; exact storeCellsA_wf hs wf
                  · cases e
                · have e := bif_some e
                  split at e
                  · injection e with e; subst e
                    exact ⟨(set_wf wf hg).1.push _, (set_wf wf hg).2.trans (.push _ _)⟩
                  · cases e
              · rename_i hg
                have e := bif_some e
                split at e
                · injection e with e; subst e
                  exact ⟨(set_wf wf hg).1.push _, (set_wf wf hg).2.trans (.push _ _)⟩
                · cases e
              · cases e
          · have e := bif_some e
            rw [Bool.cond_decide] at e
            split at e
            · injection e with e; subst e; exact ⟨wf, .refl _⟩
            · split at e
              · rename_i hg
                have e := bif_some e
                injection e with e; subst e
                exact ⟨(set_wf wf hg).1.push _, (set_wf wf hg).2.trans (.push _ _)⟩
              · cases e
          · cases e
      · cases e
  · cases e
theorem mapUpdateA_wf {m k v : AV} (e : mapUpdateA P h t m k v = some h') (wf : h.WF) : h'.WF ∧ Ext h h' := by
  unfold mapUpdateA at e
  split at e
  · split at e
    · rename_i hg
      have e := bif_some e
      split at e
      · injection e with e; subst e; exact set_wf wf hg
      · injection e with e; subst e; exact set_wf wf hg
      · cases e
    · cases e
  · cases e
theorem dataA_same {args : List AV} {r : AV × AH} (e : dataA h args = some r) : ∃ v, r = (v, h) ∧ ((args = [.nilslice] ∧ v = .nilptr) ∨ ∃ id off n c, args = [.slice id off (n + 1) c] ∧ v = .ptr id off) := by
  unfold dataA at e
  split at e
  · injection e with e; subst e; exact ⟨_, rfl, .inl ⟨rfl, rfl⟩⟩
  · injection e with e; subst e; exact ⟨_, rfl, .inr ⟨_, _, _, _, rfl, rfl⟩⟩
  · cases e
theorem textA_wf {ats : List TypeId} {args : List AV} {r : AV × AH} (e : textA P h ats args = some r) (wf : h.WF) : r.2.WF ∧ Ext h r.2 := by
  unfold textA at e
  split at e
  · injection e with e; subst e; exact ⟨wf, .refl _⟩
  · injection e with e; subst e; exact ⟨wf, .refl _⟩
  · split at e
    · rename_i hg
      have e := bif_some e
      split at e
      · split at e
        · injection e with e; subst e; exact set_wf wf hg
        · cases e
      · cases e
    · cases e
  · cases e
theorem opA_wf {o : Oper} {r : AV × AH} (e : opA P ρA o.op h = some r) (wf : h.WF) : r.2.WF ∧ Ext h r.2 := by
  cases hl : lightA ρA o.op with
  | some l =>
    rcases (light_h e hl).1 with h1 | ⟨ob, h1⟩
    · rw [h1]; exact ⟨wf, .refl _⟩
    · rw [h1]; exact push_wf wf
  | none =>
    cases hop : o.op <;> simp only [hop, lightA, pureOp, readsA, if_true, Bool.false_eq_true, if_false, reduceCtorEq] at hl <;> (simp only [hop, opA, reduceCtorEq] at e)
    case load t a =>
      split at e
      · simp only [Option.map_eq_some_iff] at e; obtain ⟨v, _, rfl⟩ := e; exact ⟨wf, .refl _⟩
      · cases e
    case lookup t m k ok =>
      split at e
      · simp only [Option.map_eq_some_iff] at e; obtain ⟨v, _, rfl⟩ := e; exact ⟨wf, .refl _⟩
      · cases e
    case store t a x =>
      split at e
      · simp only [Option.map_eq_some_iff] at e; obtain ⟨v, hv, rfl⟩ := e
        unfold storeA at hv
        split at hv
        · exact storeCellsA_wf (bif_some hv) wf
        · cases hv
      · cases e
    case mapUpdate t m k x =>
      split at e
      · simp only [Option.map_eq_some_iff] at e; obtain ⟨v, hv, rfl⟩ := e; exact mapUpdateA_wf hv wf
      · cases e
    case insert t m k x =>
      split at e
      · simp only [Option.map_eq_some_iff] at e; obtain ⟨v, hv, rfl⟩ := e; exact mapUpdateA_wf hv wf
      · cases e
    case call c =>
      obtain ⟨callee, args, ats⟩ := c
      cases callee <;> simp only [readsA, opA, reduceCtorEq] at hl e
      rename_i b
      split at e
      · rename_i vs hvs
        cases b <;> simp only [readsA, opA, reduceCtorEq] at hl <;> simp only [builtinA, reduceCtorEq] at e
        case len =>
          split at e
          · simp only [Option.map_eq_some_iff] at e; obtain ⟨v, _, rfl⟩ := e; exact ⟨wf, .refl _⟩
          · cases e
        case append => exact appendA_wf e wf
        case copy =>
          unfold copyA at e
          split at e
          · split at e
            · cases e
            · split at e
              · split at e
                · split at e
                  · rename_i hs; injection e with e; subst e; exact storeCellsA_wf hs wf
                  · cases e
                · cases e
              · injection e with e; subst e; exact ⟨wf, .refl _⟩
              · cases e
          · cases e
        case clear =>
          simp only [Option.map_eq_some_iff] at e
          obtain ⟨h2, hst, rfl⟩ := e
          unfold clearA at hst
          split at hst
          · split at hst
            · injection hst with e; subst e; exact ⟨wf, .refl _⟩
            · injection hst with e; subst e; exact ⟨wf, .refl _⟩
            · injection hst with e; subst e; exact ⟨wf, .refl _⟩
            · split at hst
              · exact storeCellsA_wf hst wf
              · cases hst
            · split at hst
              · rename_i hg; injection hst with e; subst e; exact set_wf wf hg
              · cases hst
            · cases hst
          · cases hst
        case unsafeSliceData =>
          obtain ⟨v, rfl, _⟩ := dataA_same e
          exact ⟨wf, .refl _⟩
        case unsafeString => exact textA_wf e wf
      · cases e

theorem dataA_ok {ats : Array TypeId} {ut : TypeId} {args : List AV} {args' : Array Value} {r : AV × AH} (e : dataA h args = some r) (ha : RVs M args args'.toList) (R : Rel B w0 M X w) (wf : h.WF)
    (agree : ∀ id, id < h.n → X id = h.get id) : Strong P B w0 M X h w r (Builtin.unsafeSliceData_ ats ut args') := by
  obtain ⟨v, rfl, ⟨rfl, rfl⟩ | ⟨id, off, n, c, rfl, rfl⟩⟩ := dataA_same e
  · obtain ⟨x, rest, e1, hx, hr⟩ := ha
    cases hx; cases hr
    obtain rfl : args' = #[.slice none 0 0] := by cases args'; simpa using e1
    exact Strong.of_same ⟨wf, .refl _, rfl, w, _, by rw [ovr_same agree]; exact R, rfl, rfl⟩
  · obtain ⟨x, rest, e1, hx, hr⟩ := ha
    obtain ⟨p, cp, hp, rfl, hle, hcap⟩ := hx
    cases hr
    obtain rfl : args' = #[.slice (some ⟨p.blk, p.base + off, none⟩) (n + 1) cp] := by cases args'; simpa using e1
    exact Strong.of_same ⟨wf, .refl _, rfl, w, _, by rw [ovr_same agree]; exact R, ⟨p, hp, rfl⟩, Lib.run_unsafeSliceData_row w ats ut _ _ _ (by omega)⟩

/-- In a row of bytes, so many lie side by side. -/
theorem liesAt_row {e : TypeId} (hc : P.cellsOf e = 1) (count off n : Nat) (hn : off + n ≤ count) : liesAt P P.depth e count off e n = true := by
  have hd : P.depth = (2 * (P.types.size + Made.depth) + 1) + 1 := rfl
  rw [hd]
  simp only [liesAt, Bool.or_eq_true]
  left
  rw [hd]
  simp [rowAt, hc, hn, sameLayout, Nat.mod_one]
theorem run_unsafeString_at (pt it ty e : TypeId) (hp : P.underlying pt = some (.pointer e)) (hc : P.cellsOf e = 1) (g o cells : Nat) (hsh : w.shape? g = some (e, cells)) (l : List UInt8) (h0 : l.length ≠ 0) (hn : o + l.length ≤ cells) (h63 : l.length ≤ 9223372036854775807)
    (hcell : ∀ j x, l[j]? = some x → w.cell? ((⟨g, o, none⟩ : Addr).add j) = some (.int .u8 x.toNat)) :
    (Builtin.unsafeString_ #[pt, it] ty #[.pointer (some ⟨g, o, none⟩), .int .i64 l.length]).run P w = .ok (.string ⟨l.toArray⟩) (w.freeze ⟨g, o, none⟩ l.length) := by
  have hlb := Lib.run_loadBytes (P := P) w l ⟨g, o, none⟩ .empty hcell
  have hlies := liesAt_row (P := P) hc (cells / P.cellsOf e) o l.length (by rw [hc]; simpa using hn)
  have h63' : ¬ (9223372036854775807 : Int) < (l.length : Int) := by omega
  have hdef : Builtin.unsafeString_ #[pt, it] ty #[.pointer (some ⟨g, o, none⟩), .int .i64 l.length] =
      (do
        let n ← asInt (.int .i64 l.length)
        if n < 0 then runtimePanic (.error "unsafe.String: len out of range")
        if n > IntKind.i64.max then unsupported (.unsafePointer "String: a length above the largest int")
        if n = 0 then pure (.string .empty)
        else if ← variablesAt ⟨g, o, none⟩ (← elemOf pt) n.toNat then do
          let s ← loadBytes ⟨g, o, none⟩ .empty n.toNat
          freeze ⟨g, o, none⟩ n.toNat
          pure (.string s)
        else unsupported (.unsafePointer "String: not so many bytes at ptr")) := rfl
  rw [hdef]
  have hmax : IntKind.i64.max = 9223372036854775807 := rfl
  have hneg : ¬ (l.length : Int) < 0 := by omega
  have hz : ¬ l = [] := fun e => h0 (by rw [e]; rfl)
  simp [asInt, asIntOf, hmax, h63', hneg, hz, h0, variablesAt, hsh, elemOf, run_underlying hp, hlies, hlb]
theorem bytesA_ok : ∀ {cs : List AV} {l : List UInt8} {vs : List Value}, bytesA cs = some l → RVs M cs vs → vs = l.map fun b => Value.int .u8 b.toNat
  | [], l, vs, e, h => by simp only [bytesA, Option.some.injEq] at e; subst e; exact h
  | c :: cs, l, vs, e, h => by
    unfold bytesA at e
    split at e
    · rename_i heq; cases heq
    · rename_i b xs heq
      injection heq with h1 h2; subst h1; subst h2
      split at e
      · rename_i l' hl'
        obtain ⟨v, rest, rfl, hv, hr⟩ := h
        by_cases hb : (b.toNat.toUInt8.toNat : Int) = b
        · rw [decide_eq_true hb] at e; simp only [cond_true, Option.some.injEq] at e; subst e
          cases hv
          rw [bytesA_ok hl' hr]
          simp only [List.map_cons, List.cons.injEq, and_true]
          rw [hb]
        · rw [decide_eq_false hb] at e; cases e
      · cases e
    · cases e
theorem run_freeze_heap {w : World} {g o n : Nat} {arr : Array Value} {e : TypeId} {fz : Nat × Nat} (h1 : w.heap[g]? = some (.cells arr e fz)) (hn : n ≠ 0) :
    ∃ fz', w.freeze ⟨g, o, none⟩ n = w.putObj g (.cells arr e fz') := by
  obtain ⟨hlt, hx⟩ := Array.getElem?_eq_some_iff.1 h1
  refine ⟨if fz.1 == fz.2 then (o, o + n) else (min fz.1 o, max fz.2 (o + n)), ?_⟩
  unfold World.freeze World.putObj
  rw [if_neg hn]
  congr 1
  apply Array.ext
  · simp
  · intro i hi1 hi2
    simp only [Array.getElem_modify]
    by_cases ei : g = i
    · subst ei
      simp [hx]
    · rw [if_neg ei]
      exact (Array.getElem_setIfInBounds_ne (by simpa using hi1) ei).symm
theorem textA_ok {ats : Array TypeId} {ut : TypeId} {args : List AV} {args' : Array Value} {r : AV × AH} (e : textA P h ats.toList args = some r) (ha : RVs M args args'.toList) (R : Rel B w0 M X w) (wf : h.WF)
    (agree : ∀ id, id < h.n → X id = h.get id) : Strong P B w0 M X h w r (Builtin.unsafeString_ ats ut args') := by
  unfold textA at e
  split at e
  · rename_i t1 t2 hats
    injection e with e; subst e
    obtain ⟨x, rest, e1, hx, y, rest2, e2, hy, hr⟩ := ha
    cases hx; cases hy; cases hr; subst e2
    obtain rfl : args' = #[.pointer none, .int .i64 0] := by cases args'; simpa using e1
    obtain rfl : ats = #[t1, t2] := by cases ats; simpa using hats
    exact Strong.of_same ⟨wf, .refl _, rfl, w, _, by rw [ovr_same agree]; exact R, rfl, Lib.run_unsafeString_none w t1 t2 ut _⟩
  · rename_i t1 t2 id off hats
    injection e with e; subst e
    obtain ⟨x, rest, e1, hx, y, rest2, e2, hy, hr⟩ := ha
    obtain ⟨p, hp, rfl⟩ := hx
    cases hy; cases hr; subst e2
    obtain rfl : args' = #[.pointer (some ⟨p.blk, p.base + off, none⟩), .int .i64 0] := by cases args'; simpa using e1
    obtain rfl : ats = #[t1, t2] := by cases ats; simpa using hats
    exact Strong.of_same ⟨wf, .refl _, rfl, w, _, by rw [ovr_same agree]; exact R, rfl, Lib.run_unsafeString_none w t1 t2 ut _⟩
  · rename_i t1 t2 id off n hats
    obtain rfl : ats = #[t1, t2] := by cases ats; simpa using hats
    split at e
    · rename_i u te cs hu hg
      cases hc : (decide (u = te ∧ n + 1 ≤ 2147483648) && P.cellsOf te == 1) with
      | false => rw [hc] at e; cases e
      | true =>
        rw [hc] at e; simp only [cond_true] at e
        simp only [Bool.and_eq_true, decide_eq_true_eq, beq_iff_eq] at hc
        obtain ⟨⟨rfl, hn⟩, hcell⟩ := hc
        split at e
        · rename_i bs hcut
          split at e
          · rename_i l hl
            injection e with e; subst e
            obtain ⟨x, rest, e1, hx, y, rest2, e2, hy, hr⟩ := ha
            obtain ⟨p, hp, rfl⟩ := hx
            cases hy; cases hr; subst e2
            obtain rfl : args' = #[.pointer (some ⟨p.blk, p.base + off, none⟩), .int .i64 (Int.ofNat (n + 1))] := by cases args'; simpa using e1
            obtain ⟨o, hxx, ho⟩ := R.obj id p hp
            have hx0 := hxx
            have hlt := wf.lt hg
            rw [agree id hlt, hg] at hxx; injection hxx with hxx; subst hxx
            obtain ⟨arr, h1, h2, h3, h4, h5⟩ := ho
            unfold cut at hcut
            by_cases hb : off + (n + 1) ≤ cs.length
            · rw [decide_eq_true hb] at hcut; simp only [cond_true, Option.some.injEq] at hcut; subst hcut
              have hbs := h4.drop off
              have hbs := hbs.take (n + 1)
              have hcs := bytesA_ok hl hbs
              have hlen : l.length = n + 1 := by
                have h6 := congrArg List.length hcs
                simp only [List.length_take, List.length_drop, List.length_map, Array.length_toList] at h6
                omega
              obtain ⟨fz, hfz⟩ := run_freeze_heap (o := p.base + off) h1 (show n + 1 ≠ 0 by omega)
              have hrun := run_unsafeString_at (P := P) (w := w) t1 t2 ut u hu hcell p.blk (p.base + off) arr.size (by simp [World.shape?, h1]) l (by omega) (by omega) (by omega) (by
                intro j x hj
                have hjl : j < l.length := (List.getElem?_eq_some_iff.1 hj).1
                have h7 := congrArg (·[j]?) hcs
                simp only [List.getElem?_take, List.getElem?_drop, List.getElem?_map, hj, Option.map_some] at h7
                rw [if_pos (by omega), if_pos (by omega)] at h7
                have ha : (⟨p.blk, p.base + off, none⟩ : Addr).add j = ⟨p.blk, p.base + off + j, none⟩ := by
                  unfold Addr.add; split <;> simp_all
                rw [ha]
                simp only [World.cell?, h1]
                simpa [Nat.add_assoc] using h7)
              rw [hlen] at hrun
              refine Strong.of_same ⟨wf.set hlt _, .set _ _ _, rfl, _, _, ?_, rfl, hrun⟩
              rw [hfz]
              refine (R.put hp hx0 (by simp) (by simp) h5 (o := .cells cs true) ?_).congr fun j q hq => ?_
              · exact ⟨arr, u, fz, World.putObj_heap_same (Array.getElem?_eq_some_iff.1 h1).1, h2, h3, h4, .inl rfl⟩
              · unfold ovr
                rw [AH.set_n, AH.get_set]
                by_cases ej : j = id
                · subst ej; rw [if_pos hlt, if_pos rfl, if_pos rfl]
                · rw [if_neg ej, if_neg ej]
                  split
                  · rename_i e; exact (agree j e).symm
                  · rfl
            · rw [decide_eq_false hb] at hcut; cases hcut
          · cases e
        · cases e
    · cases e
  · cases e
/-- A step of memory that comes to nothing. -/
theorem strong_unit {h2 : AH} {s : Sem Unit} (H : h2.WF ∧ Ext h h2 ∧ h2.n = h.n ∧ ∃ w', Rel B w0 M (ovr h2 X) w' ∧ s.run P w = .ok () w') :
    h2.WF ∧ Ext h h2 ∧ ∃ M' w', Stp B w0 M h h2 (ovr h2 X) M' w' ∧ (do s; pure Next.skip : Sem Next).run P w = .ok .skip w' :=
  let ⟨a, b, c, w', d, f⟩ := H
  ⟨a, b, M, w', ⟨.refl _, fun _ e _ => e, d⟩, by simp only [Sem.run_bind, f, Result.andThen_ok, Sem.run_pure]⟩

/-- What an operation that enters no function comes to. -/
def Did (P : Program) (B : Nat) (w0 : World) (M : Mp) (h : AH) (Y : Nat → Option AO) (w : World) (r : AV × AH) (s : Sem Next) : Prop :=
  ∃ M' w' v', Stp B w0 M h r.2 Y M' w' ∧ RV M' r.1 v' ∧ (s.run P w = .ok (.value v') w' ∨ (s.run P w = .ok .skip w' ∧ v' = undef))

theorem opA_ok (hρ : ∀ x a, ρA x = some a → RV M a (ρ x)) {o : Oper} {r : AV × AH} (e : opA P ρA o.op h = some r)
    (R : Rel B w0 M X w) (wf : h.WF) (hM : ∀ id, h.n ≤ id → id < r.2.n → M id = none) (agree : ∀ id, id < h.n → X id = h.get id) :
    r.2.WF ∧ Ext h r.2 ∧ Did P B w0 M h (ovr r.2 X) w r (execOp ρ o) := by
  have key : ∀ {s : Sem Value}, Strong P B w0 M X h w r s → (execOp ρ o).run P w = (asVal s).run P w → r.2.WF ∧ Ext h r.2 ∧ Did P B w0 M h (ovr r.2 X) w r (execOp ρ o) := by
    intro s ⟨h1, h2, M', w', v', h3, h4, h5⟩ h6
    exact ⟨h1, h2, M', w', v', h3, h4, .inl (by rw [h6, run_asVal h5])⟩
  have keyU : ∀ {h2 : AH} {s : Sem Unit}, r = (undefA, h2) → h2.WF ∧ Ext h h2 ∧ h2.n = h.n ∧ (∃ w', Rel B w0 M (ovr h2 X) w' ∧ s.run P w = .ok () w') →
      (execOp ρ o).run P w = (do s; pure Next.skip : Sem Next).run P w → r.2.WF ∧ Ext h r.2 ∧ Did P B w0 M h (ovr r.2 X) w r (execOp ρ o) := by
    intro h2 s hr H h6
    subst hr
    obtain ⟨a, b, M', w', c, d⟩ := strong_unit H
    exact ⟨a, b, M', w', undef, c, .undef, .inr ⟨h6.trans d, rfl⟩⟩
  cases hl : lightA ρA o.op with
  | some l =>
    by_cases hlt : ∀ id, id ∈ l → id < h.n
    · obtain ⟨s, h1, h2⟩ := lightOp_ok hρ e hl R hM fun id hid => agree id (hlt id hid)
      exact key (h1.strong wf agree) h2
    · exact absurd (light_lt e hl wf) hlt
  | none =>
    unfold execOp
    cases hop : o.op <;> simp only [hop, lightA, pureOp, readsA, if_true, Bool.false_eq_true, if_false, reduceCtorEq] at hl <;> (simp only [hop, opA, reduceCtorEq] at e)
    case load t a =>
      exfalso
      cases ha : ρA a with
      | none => simp [ha] at e
      | some v => rw [ha] at e hl; cases v <;> first | (simp [loadA] at e; done) | (simp at hl; done)
    case lookup t m k ok =>
      exfalso
      cases ha : ρA m with
      | none => simp [ha] at e
      | some v =>
        rw [ha] at e hl
        split at e
        · rename_i a b hh _
          injection hh with hh; subst hh
          have : ∀ m, mapAt h m = none → lookupA P h t m b ok = none := by intro m hm; simp [lookupA, hm]
          cases v <;> first | (rw [this _ rfl] at e; simp at e; done) | (simp at hl; done)
        · simp at e
    case store t a x =>
      split at e
      · rename_i av v ha hv
        simp only [Option.map_eq_some_iff] at e
        obtain ⟨h2, hst, rfl⟩ := e
        have := storeA_ok (P := P) hst (hρ _ _ ha) (hρ _ _ hv) R wf agree
        simpa only [execOp, hop] using keyU rfl this (by simp only [execOp, hop])
      · simp at e
    case mapUpdate t m k x =>
      split at e
      · rename_i mv kv v hm hk hv
        simp only [Option.map_eq_some_iff] at e
        obtain ⟨h2, hst, rfl⟩ := e
        have := mapUpdateA_ok (P := P) hst (hρ _ _ hm) (hρ _ _ hk) (hρ _ _ hv) R wf agree
        simpa only [execOp, hop] using keyU rfl this (by simp only [execOp, hop])
      · simp at e
    case insert t m k x =>
      split at e
      · rename_i mv kv v hm hk hv
        simp only [Option.map_eq_some_iff] at e
        obtain ⟨h2, hst, rfl⟩ := e
        have := mapUpdateA_ok (P := P) hst (hρ _ _ hm) (hρ _ _ hk) (hρ _ _ hv) R wf agree
        simpa only [execOp, hop] using keyU rfl this (by simp only [execOp, hop])
      · simp at e
    case call c =>
      obtain ⟨callee, args, ats⟩ := c
      cases callee <;> simp only [readsA, opA, reduceCtorEq] at hl e
      rename_i b
      split at e
      · rename_i vs hvs
        have hvs' := mapOpt_RVs hρ hvs
        have hargs : (args.map ρ).toList = args.toList.map ρ := by simp
        rw [← hargs] at hvs'
        cases b <;> simp only [readsA, opA, reduceCtorEq] at hl <;> simp only [builtinA, reduceCtorEq] at e
        case len =>
          rw [hvs] at hl
          split at e
          · split at hl <;> simp_all
          · simp at e
        case append =>
          have := appendA_ok (P := P) (ut := o.type) e hvs' R wf agree hM
          simpa only [execOp, hop] using key (s := Builtin.append_ ats o.type (args.map ρ)) this (by simp only [execOp, hop, resolve, Sem.run_bind, Sem.run_pure, Result.andThen_ok, invoke, Go.builtin, asVal])
        case copy =>
          have := copyA_ok (P := P) (ut := o.type) e hvs' R wf agree
          simpa only [execOp, hop] using key (s := Builtin.copy_ ats o.type (args.map ρ)) (Strong.of_same this) (by simp only [execOp, hop, resolve, Sem.run_bind, Sem.run_pure, Result.andThen_ok, invoke, Go.builtin, asVal])
        case clear =>
          simp only [Option.map_eq_some_iff] at e
          obtain ⟨h2, hst, rfl⟩ := e
          obtain ⟨g1, g2, g3, w', g4, g5⟩ := clearA_ok (P := P) (ut := o.type) hst hvs' R wf agree
          simpa only [execOp, hop] using key (s := Builtin.clear_ ats o.type (args.map ρ)) (Strong.of_same ⟨g1, g2, g3, w', _, g4, ⟨#[], rfl, rfl⟩, g5⟩) (by simp only [execOp, hop, resolve, Sem.run_bind, Sem.run_pure, Result.andThen_ok, invoke, Go.builtin, asVal])
        case unsafeSliceData =>
          have := dataA_ok (P := P) (ats := ats) (ut := o.type) e hvs' R wf agree
          simpa only [execOp, hop] using key (s := Builtin.unsafeSliceData_ ats o.type (args.map ρ)) this (by simp only [execOp, hop, resolve, Sem.run_bind, Sem.run_pure, Result.andThen_ok, invoke, Go.builtin, asVal])
        case unsafeString =>
          have := textA_ok (P := P) (ut := o.type) e hvs' R wf agree
          simpa only [execOp, hop] using key (s := Builtin.unsafeString_ ats o.type (args.map ρ)) this (by simp only [execOp, hop, resolve, Sem.run_bind, Sem.run_pure, Result.andThen_ok, invoke, Go.builtin, asVal])
      · simp at e
end
end Go.Ai
