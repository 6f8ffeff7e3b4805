/- What an operation does in the model, where the abstract machine does it: numbers, strings, addresses, parts of values. -/
import Derived.Test.YthllmdjcogjkoaaDoorAi4
namespace Go.Ai
set_option linter.unusedSimpArgs false
set_option linter.unusedVariables false

section runs
variable {P : Program} {w : World} {t : TypeId}
theorem run_underlying {d : TypeDesc} (h : P.underlying t = some d) : (underlying t).run P w = .ok d w := by simp [underlying, h]
theorem run_typeInfo {i : TypeInfo} (h : P.info? t = some i) : (typeInfo t).run P w = .ok i w := by simp [typeInfo, h]
theorem run_sizeOf {n : Nat} (h : szOf P t = some n) : (sizeOf t).run P w = .ok n w := by
  simp only [szOf, Option.map_eq_some_iff] at h
  obtain ⟨i, hi, rfl⟩ := h
  simp [sizeOf, run_typeInfo hi]
theorem run_isAgg {b : Bool} (h : aggT P t = some b) : (isAgg t).run P w = .ok b w := by
  unfold aggT at h
  unfold isAgg
  cases hd : P.underlying t with
  | none => simp [hd] at h
  | some d =>
    simp only [Sem.run_bind, run_underlying hd, Result.andThen_ok]
    cases d <;> simp [hd] at h ⊢ <;> exact h
theorem run_zeroValue {M : Mp} {a : AV} (h : zeroA P t = some a) : ∃ v, (zeroValue t).run P w = .ok v w ∧ RV M a v := by
  unfold zeroA at h
  split at h
  · rename_i i hi
    split at h
    · rename_i v hv
      exact ⟨v, by simp [zeroValue, run_typeInfo hi, hv], ofVal_ok M _ _ _ h⟩
    · simp at h
  · simp at h
theorem run_part {M : Mp} {cs : List AV} {cs' : Array Value} {off : Nat} {a : AV} (hc : RVs M cs cs'.toList) (h : partA P t cs off = some a) :
    ∃ v, (part t cs' off).run P w = .ok v w ∧ RV M a v := by
  unfold partA at h
  split at h
  · rename_i n ha hn
    injection h with h; subst h
    refine ⟨.agg (cs'.extract off (off + n)), by simp [part, run_isAgg ha, run_sizeOf hn], _, rfl, ?_⟩
    have := (hc.drop off).take n
    simpa [Array.toList_extract, List.extract_eq_take_drop] using this
  · rename_i ha
    obtain ⟨v, h1, h2⟩ := hc.get h
    refine ⟨v, ?_, h2⟩
    have : cs'[off]? = some v := by simpa using h1
    simp [part, run_isAgg ha, this]
  · simp at h
end runs

theorem boundA_run {P : Program} {w : World} {M : Mp} {x : AV} {y : Value} {most d n : Nat} (c : BoundsCode) (hx : RV M x y) (h : boundA (some x) most d = some n) :
    (Instr.sliceBound y most c).run P w = .ok n w := by
  cases x <;> simp only [boundA, reduceCtorEq] at h
  case int k i =>
    cases hx
    by_cases hb : 0 ≤ i ∧ i ≤ (most : Int)
    · simp only [decide_eq_true hb, cond_true, Option.some.injEq] at h
      subst h
      simp [Instr.sliceBound, asIntOf, hb]
    · simp [decide_eq_false hb] at h

section pure
variable {P : Program} {w : World} {M : Mp} {x y z : AV} {x' y' : Value}

theorem intBinA_ok {op : BinOp} {k : IntKind} {a b : Int} (h : intBinA op k a b = some z) (t : TypeId) (h1 : op ≠ .shl) (h2 : op ≠ .shr) :
    ∃ z', (binOp op t (.int k a) (.int k b)).run P w = .ok z' w ∧ RV M z z' := by
  cases op <;> first | exact absurd rfl h1 | exact absurd rfl h2 | skip
  case quo | rem =>
    simp only [intBinA] at h
    by_cases hb : b = 0
    · simp [hb] at h
    · simp only [decide_eq_false hb, cond_false, Option.some.injEq] at h
      subst h
      simp only [binOp, ne_eq, not_true_eq_false, if_false, Op.intDiv, hb]
      exact ⟨_, rfl, rfl⟩
  all_goals
    simp only [intBinA, Option.some.injEq] at h
    subst h
    simp only [binOp, ne_eq, not_true_eq_false, if_false, Op.intArith, Op.intBits, Op.intCmp]
    exact ⟨_, rfl, rfl⟩
theorem shiftA_ok {op : BinOp} {k k' : IntKind} {a b : Int} (h : shiftA op k a b = some z) (t : TypeId) (h1 : op = .shl ∨ op = .shr) :
    ∃ z', (binOp op t (.int k a) (.int k' b)).run P w = .ok z' w ∧ RV M z z' := by
  unfold shiftA at h
  by_cases hb : b < 0
  · simp [hb] at h
  · simp only [decide_eq_false hb, cond_false] at h
    rcases h1 with rfl | rfl <;> (injection h with h; subst h; simp only [binOp, Op.shift, hb, if_false]; exact ⟨_, rfl, rfl⟩)
theorem strBinA_ok {op : BinOp} {a b : ByteArray} (h : strBinA op a b = some z) (t : TypeId) :
    ∃ z', (binOp op t (.string a) (.string b)).run P w = .ok z' w ∧ RV M z z' := by
  cases op <;> simp only [strBinA, reduceCtorEq] at h
  case add =>
    by_cases hb : ((a.size + b.size : Nat) : Int) > IntKind.i64.max
    · rw [decide_eq_true hb] at h; simp at h
    · simp only [decide_eq_false hb, cond_false, Option.some.injEq] at h
      subst h
      simp only [binOp, Op.stringOp, hb, if_false]
      exact ⟨_, rfl, rfl⟩
  all_goals
    injection h with h
    subst h
    simp only [binOp, Op.stringOp]
    exact ⟨_, rfl, rfl⟩

/-- What a search for a difference comes to. -/
def Came (r : Bool) (s : Option Bool × Unit) : Prop := match s.1 with
  | some b => b = r
  | none => r = true
theorem run_eqFields {d : Nat} (eq : TypeId → AV → AV → Option Bool)
    (heq : ∀ t a b a' b' r, RV M a a' → RV M b b' → eq t a b = some r → (Op.equalIn d t a' b').run P w = .ok r w)
    {xs ys : List AV} {xs' ys' : Array Value} (hx : RVs M xs xs'.toList) (hy : RVs M ys ys'.toList) :
    ∀ (fs : List Field) (r : Bool), eqFieldsA P eq fs xs ys = some r →
      ∃ s, (forIn fs ((none : Option Bool), ()) fun f __s =>
              if f.name ≠ "_" then do
                let __do_lift ← part f.type xs' f.offset
                let __do_lift_1 ← part f.type ys' f.offset
                let __do_lift ← Op.equalIn d f.type __do_lift __do_lift_1
                if (!__do_lift) = true then pure (ForInStep.done (some false, ()))
                  else pure (ForInStep.yield (none, ()))
              else pure (ForInStep.yield (none, ())) : Sem (Option Bool × Unit)).run P w = .ok s w ∧ Came r s := by
  intro fs
  induction fs with
  | nil => intro r h; simp only [eqFieldsA, Option.some.injEq] at h; subst h; exact ⟨(none, ()), by simp, rfl⟩
  | cons f fs ih =>
    intro r h
    simp only [eqFieldsA] at h
    by_cases hn : f.name = "_"
    · simp only [hn, bne_self_eq_false, cond_false] at h
      obtain ⟨s, h1, h2⟩ := ih r h
      refine ⟨s, ?_, h2⟩
      rw [List.forIn_cons, if_neg (by simpa using hn), pure_bind]
      exact h1
    · have hb : (f.name != "_") = true := by simpa using hn
      simp only [hb, cond_true] at h
      split at h
      · rename_i a b ha hb'
        obtain ⟨a', ra, va⟩ := run_part (P := P) (w := w) hx ha
        obtain ⟨b', rb, vb⟩ := run_part (P := P) (w := w) hy hb'
        rw [List.forIn_cons, if_pos hn]
        split at h
        · rename_i he
          have h1 := heq _ _ _ _ _ _ va vb he
          obtain ⟨s, h2, h3⟩ := ih r h
          refine ⟨s, ?_, h3⟩
          simp only [bind_assoc, Sem.run_bind, ra, rb, h1, Result.andThen_ok, Bool.not_true, Bool.false_eq_true, if_false, pure_bind]
          exact h2
        · rename_i he
          injection h with h; subst h
          have h1 := heq _ _ _ _ _ _ va vb he
          refine ⟨(some false, ()), ?_, rfl⟩
          simp only [bind_assoc, Sem.run_bind, ra, rb, h1, Result.andThen_ok, Bool.not_false, if_true, pure_bind, Sem.run_pure]
        · simp at h
      · simp at h
theorem run_eqArr {d : Nat} (eq : TypeId → AV → AV → Option Bool)
    (heq : ∀ t a b a' b' r, RV M a a' → RV M b b' → eq t a b = some r → (Op.equalIn d t a' b').run P w = .ok r w)
    {xs ys : List AV} {xs' ys' : Array Value} (hx : RVs M xs xs'.toList) (hy : RVs M ys ys'.toList) {e : TypeId} {n : Nat} :
    ∀ (k i : Nat) (r : Bool), eqArrA P eq e n xs ys k i = some r →
      ∃ s, (forIn (List.range' i k 1) ((none : Option Bool), ()) fun i __s => do
              let __do_lift ← part e xs' (i * n)
              let __do_lift_1 ← part e ys' (i * n)
              let __do_lift ← Op.equalIn d e __do_lift __do_lift_1
              if (!__do_lift) = true then pure (ForInStep.done (some false, ())) else pure (ForInStep.yield (none, ())) : Sem (Option Bool × Unit)).run P w = .ok s w ∧ Came r s := by
  intro k
  induction k with
  | zero => intro i r h; simp only [eqArrA, Option.some.injEq] at h; subst h; exact ⟨(none, ()), by simp, rfl⟩
  | succ k ih =>
    intro i r h
    simp only [eqArrA] at h
    split at h
    · rename_i a b ha hb'
      obtain ⟨a', ra, va⟩ := run_part (P := P) (w := w) hx ha
      obtain ⟨b', rb, vb⟩ := run_part (P := P) (w := w) hy hb'
      rw [List.range'_succ, List.forIn_cons]
      split at h
      · rename_i he
        have h1 := heq _ _ _ _ _ _ va vb he
        obtain ⟨s, h2, h3⟩ := ih (i + 1) r h
        refine ⟨s, ?_, h3⟩
        simp only [bind_assoc, Sem.run_bind, ra, rb, h1, Result.andThen_ok, Bool.not_true, Bool.false_eq_true, if_false, pure_bind]
        exact h2
      · rename_i he
        injection h with h; subst h
        have h1 := heq _ _ _ _ _ _ va vb he
        refine ⟨(some false, ()), ?_, rfl⟩
        simp only [bind_assoc, Sem.run_bind, ra, rb, h1, Result.andThen_ok, Bool.not_false, if_true, pure_bind, Sem.run_pure]
      · simp at h
    · simp at h
set_option maxHeartbeats 1000000 in
theorem eqA_ok : ∀ (d D : Nat) (t : TypeId) (a b : AV) (a' b' : Value) (r : Bool), d ≤ D → RV M a a' → RV M b b' → eqA P d t a b = some r → (Op.equalIn D t a' b').run P w = .ok r w := by
  intro d
  induction d with
  | zero => intro D t a b a' b' r _ _ _ h; simp [eqA] at h
  | succ d ih =>
    intro D t a b a' b' r hD ha hb h
    obtain ⟨D, rfl⟩ : ∃ D', D = D' + 1 := ⟨D - 1, by omega⟩
    have ih' := fun t a b a' b' r => ih D t a b a' b' r (by omega)
    cases a <;> cases b <;> simp only [eqA, reduceCtorEq] at h
    case agg.agg xs ys =>
      obtain ⟨xs', rfl, hx⟩ := ha
      obtain ⟨ys', rfl, hy⟩ := hb
      split at h
      · rename_i fields hu
        cases hs : P.stoodInHeld t with
        | true => simp [hs] at h
        | false =>
          simp only [hs, cond_false] at h
          obtain ⟨s, h1, h2⟩ := run_eqFields (w := w) (eqA P d) ih' hx hy fields.toList r h
          simp only [Op.equalIn, Sem.run_bind, underlying, run_program, Result.andThen_ok, hu, hs, Sem.run_pure, Bool.false_eq_true, if_false, ← Array.forIn_toList, h1]
          obtain ⟨s1, s2⟩ := s
          cases s1 <;> simp only [Came] at h2 <;> subst h2 <;> rfl
      · rename_i len e hu
        split at h
        · rename_i n hn
          obtain ⟨s, h1, h2⟩ := run_eqArr (w := w) (eqA P d) ih' hx hy len 0 r h
          simp only [Op.equalIn, Sem.run_bind, underlying, run_program, Result.andThen_ok, hu, Sem.run_pure, run_sizeOf hn]
          rw [Std.Legacy.Range.forIn_eq_forIn_range']
          simp only [Std.Legacy.Range.size, Nat.sub_zero, Nat.add_one_sub_one, Nat.div_one]
          rw [h1]
          obtain ⟨s1, s2⟩ := s
          cases s1 <;> simp only [Came] at h2 <;> subst h2 <;> rfl
        · simp at h
      · simp at h
    case ptr.nilptr => obtain ⟨p, hp, rfl⟩ := ha; cases hb; split at h <;> simp at h; rename_i hu; subst h; simp only [Op.equalIn, Sem.run_bind, run_underlying hu, Result.andThen_ok, Sem.run_pure, Option.isNone_none, Option.isNone_some]
    case nilptr.ptr => obtain ⟨p, hp, rfl⟩ := hb; cases ha; split at h <;> simp at h; rename_i hu; subst h; simp only [Op.equalIn, Sem.run_bind, run_underlying hu, Result.andThen_ok, Sem.run_pure, Option.isNone_none, Option.isNone_some]
    case slice.nilslice => obtain ⟨p, c, hp, rfl, _, _⟩ := ha; cases hb; split at h <;> simp at h; rename_i hu; subst h; simp only [Op.equalIn, Sem.run_bind, run_underlying hu, Result.andThen_ok, Sem.run_pure, Option.isNone_none, Option.isNone_some]
    case nilslice.slice => obtain ⟨p, c, hp, rfl, _, _⟩ := hb; cases ha; split at h <;> simp at h; rename_i hu; subst h; simp only [Op.equalIn, Sem.run_bind, run_underlying hu, Result.andThen_ok, Sem.run_pure, Option.isNone_none, Option.isNone_some]
    case empty.nilslice => obtain ⟨p, ad, c, hp, rfl, _⟩ := ha; cases hb; split at h <;> simp at h; rename_i hu; subst h; simp only [Op.equalIn, Sem.run_bind, run_underlying hu, Result.andThen_ok, Sem.run_pure, Option.isNone_none, Option.isNone_some]
    case nilslice.empty => obtain ⟨p, ad, c, hp, rfl, _⟩ := hb; cases ha; split at h <;> simp at h; rename_i hu; subst h; simp only [Op.equalIn, Sem.run_bind, run_underlying hu, Result.andThen_ok, Sem.run_pure, Option.isNone_none, Option.isNone_some]
    case map.nilmap => obtain ⟨p, hp, rfl⟩ := ha; cases hb; split at h <;> simp at h; rename_i hu; subst h; simp only [Op.equalIn, Sem.run_bind, run_underlying hu, Result.andThen_ok, Sem.run_pure, Option.isNone_none, Option.isNone_some]
    case nilmap.map => obtain ⟨p, hp, rfl⟩ := hb; cases ha; split at h <;> simp at h; rename_i hu; subst h; simp only [Op.equalIn, Sem.run_bind, run_underlying hu, Result.andThen_ok, Sem.run_pure, Option.isNone_none, Option.isNone_some]
    case iface.niliface => obtain ⟨p, rfl, hp⟩ := ha; cases hb; split at h <;> simp at h; rename_i hu; subst h; simp only [Op.equalIn, Sem.run_bind, run_underlying hu, Result.andThen_ok, Sem.run_pure, Option.isNone_none, Option.isNone_some]
    case niliface.iface => obtain ⟨p, rfl, hp⟩ := hb; cases ha; split at h <;> simp at h; rename_i hu; subst h; simp only [Op.equalIn, Sem.run_bind, run_underlying hu, Result.andThen_ok, Sem.run_pure, Option.isNone_none, Option.isNone_some]
    case func.nilfunc => obtain ⟨p, q, rfl, hp, _⟩ := ha; cases hb; split at h <;> simp at h; rename_i hu; subst h; simp only [Op.equalIn, Sem.run_bind, run_underlying hu, Result.andThen_ok, Sem.run_pure, Option.isNone_none, Option.isNone_some]
    case nilfunc.func => obtain ⟨p, q, rfl, hp, _⟩ := hb; cases ha; split at h <;> simp at h; rename_i hu; subst h; simp only [Op.equalIn, Sem.run_bind, run_underlying hu, Result.andThen_ok, Sem.run_pure, Option.isNone_none, Option.isNone_some]
    case int.int =>
      cases ha; cases hb
      rename_i k n k' n'
      split at h
      · rename_i hu
        by_cases hk : k = k'
        · simp only [decide_eq_true hk, cond_true, Option.some.injEq] at h
          subst h
          simp only [Op.equalIn, Sem.run_bind, run_underlying hu, Result.andThen_ok, hk, if_true, Sem.run_pure]
        · simp [decide_eq_false hk] at h
      · simp at h
    all_goals (cases ha; cases hb; split at h <;> simp at h; rename_i hu; subst h; simp only [Op.equalIn, Sem.run_bind, run_underlying hu, Result.andThen_ok, Sem.run_pure, Option.isNone_none, Option.isNone_some])

theorem binA_ok {op : BinOp} {t : TypeId} (h : binA P op t x y = some z) (hx : RV M x x') (hy : RV M y y') :
    ∃ z', (binOp op t x' y').run P w = .ok z' w ∧ RV M z z' := by
  by_cases hxi : ∃ k a k' b, x = .int k a ∧ y = .int k' b
  · obtain ⟨k, a, k', b, rfl, rfl⟩ := hxi
    cases hx; cases hy
    by_cases ho : op = .shl ∨ op = .shr
    · rcases ho with rfl | rfl
      · have h : shiftA BinOp.shl k a b = some z := h
        exact shiftA_ok h t (by simp)
      · have h : shiftA BinOp.shr k a b = some z := h
        exact shiftA_ok h t (by simp)
    · have h1 : op ≠ .shl := fun e => ho (.inl e)
      have h2 : op ≠ .shr := fun e => ho (.inr e)
      have h3 : (bif decide (k = k') then intBinA op k a b else none) = some z := by cases op <;> first | exact absurd rfl h1 | exact absurd rfl h2 | exact h
      by_cases hk : k = k'
      · subst hk; rw [decide_eq_true rfl] at h3; exact intBinA_ok h3 t h1 h2
      · rw [decide_eq_false hk] at h3; simp at h3
  · by_cases hxs : ∃ a b, x = .str a ∧ y = .str b
    · obtain ⟨a, b, rfl, rfl⟩ := hxs
      cases hx; cases hy
      exact strBinA_ok h t
    · have hop : ∃ r, eqA P 20 t x y = some r ∧ ((op = .eql ∧ z = .bool r) ∨ (op = .neq ∧ z = .bool !r)) := by
        unfold binA at h
        split at h
        · exact absurd ⟨_, _, _, _, rfl, rfl⟩ hxi
        · exact absurd ⟨_, _, rfl, rfl⟩ hxs
        · split at h
          · simp only [Option.map_eq_some_iff] at h; obtain ⟨r, h1, h2⟩ := h; exact ⟨r, h1, .inl ⟨rfl, h2.symm⟩⟩
          · simp only [Option.map_eq_some_iff] at h; obtain ⟨r, h1, h2⟩ := h; exact ⟨r, h1, .inr ⟨rfl, h2.symm⟩⟩
          · simp at h
      obtain ⟨r, he, hop⟩ := hop
      have hr := eqA_ok (w := w) 20 Op.maxDepth t x y x' y' r (by decide) hx hy he
      have key : ∀ o, (o = BinOp.eql ∨ o = BinOp.neq) → binOp o t x' y' = (match o with | .eql => (do pure (.bool (← Op.equal t x' y')) : Sem Value) | _ => do pure (.bool (!(← Op.equal t x' y')))) := by
        intro o ho
        have hi : ¬ ∃ k a k' b, x' = .int k a ∧ y' = .int k' b := by
          rintro ⟨k, a, k', b, rfl, rfl⟩
          have e1 : (∃ k a, x = .int k a) ∨ x = .other := by cases x <;> first | (left; exact ⟨_, _, rfl⟩) | (right; rfl) | (exfalso; simp [RV] at hx)
          have e2 : (∃ k a, y = .int k a) ∨ y = .other := by cases y <;> first | (left; exact ⟨_, _, rfl⟩) | (right; rfl) | (exfalso; simp [RV] at hy)
          rcases e1 with ⟨_, _, rfl⟩ | rfl
          · rcases e2 with ⟨_, _, rfl⟩ | rfl
            · exact hxi ⟨_, _, _, _, rfl, rfl⟩
            · simp [eqA] at he
          · simp [eqA] at he
        have hs : ¬ ∃ a b, x' = .string a ∧ y' = .string b := by
          rintro ⟨a, b, rfl, rfl⟩
          have e1 : (∃ a, x = .str a) ∨ x = .other := by cases x <;> first | (left; exact ⟨_, rfl⟩) | (right; rfl) | (exfalso; simp [RV] at hx)
          have e2 : (∃ a, y = .str a) ∨ y = .other := by cases y <;> first | (left; exact ⟨_, rfl⟩) | (right; rfl) | (exfalso; simp [RV] at hy)
          rcases e1 with ⟨_, rfl⟩ | rfl
          · rcases e2 with ⟨_, rfl⟩ | rfl
            · exact hxs ⟨_, _, rfl, rfl⟩
            · simp [eqA] at he
          · simp [eqA] at he
        have hf : ¬ ∃ k a k' b, x' = .float k a ∧ y' = .float k' b := by
          rintro ⟨k, a, k', b, rfl, rfl⟩
          have e1 : x = .other := by cases x <;> first | rfl | (exfalso; simp [RV] at hx)
          subst e1; simp [eqA] at he
        have hc : ¬ ∃ k a b k' c d, x' = .complex k a b ∧ y' = .complex k' c d := by
          rintro ⟨k, a, b, k', c, d, rfl, rfl⟩
          have e1 : x = .other := by cases x <;> first | rfl | (exfalso; simp [RV] at hx)
          subst e1; simp [eqA] at he
        rcases ho with rfl | rfl
        all_goals
          cases x' <;> first
            | rfl
            | (cases y' <;> first
                | rfl
                | (exfalso; exact hi ⟨_, _, _, _, rfl, rfl⟩)
                | (exfalso; exact hs ⟨_, _, rfl, rfl⟩)
                | (exfalso; exact hf ⟨_, _, _, _, rfl, rfl⟩)
                | (exfalso; exact hc ⟨_, _, _, _, _, _, rfl, rfl⟩))
      rcases hop with ⟨rfl, rfl⟩ | ⟨rfl, rfl⟩
      · exact ⟨_, by rw [key _ (.inl rfl)]; simp only [Op.equal, Sem.run_bind, hr, Result.andThen_ok, Sem.run_pure], rfl⟩
      · exact ⟨_, by rw [key _ (.inr rfl)]; simp only [Op.equal, Sem.run_bind, hr, Result.andThen_ok, Sem.run_pure], rfl⟩
theorem guardAt_ok {op : BinOp} {t : TypeId} {ox oy : Operand} (ho : op = .eql ∨ op = .neq) (h : guardAt P t ox oy x y = true) (hx : RV M x x') (hy : RV M y y') :
    (eqGuard op t ox oy x' y').run P w = .ok () w := by
  rcases ho with rfl | rfl
  all_goals
      unfold eqGuard
      by_cases hn : x' = .nilIface ∧ y' = .nilIface
      · obtain ⟨rfl, rfl⟩ := hn
        have ex : x = .niliface := by cases x <;> first | rfl | (exfalso; simp [guardAt] at h; done) | (exfalso; simp [RV] at hx; done)
        have ey : y = .niliface := by subst ex; cases y <;> first | rfl | (exfalso; simp [guardAt] at h; done) | (exfalso; simp [RV] at hy; done)
        subst ex ey
        simp only [guardAt] at h
        cases ox <;> cases oy <;> first | (simp at h; done) | rfl
      · by_cases ha : ∃ c d, x' = .agg c ∧ y' = .agg d
        · obtain ⟨c, d, rfl, rfl⟩ := ha
          have ex : ∃ xs, x = .agg xs := by cases x <;> first | exact ⟨_, rfl⟩ | (exfalso; simp [guardAt] at h; done) | (exfalso; simp [RV] at hx; done)
          obtain ⟨xs, rfl⟩ := ex
          have ey : ∃ ys, y = .agg ys := by cases y <;> first | exact ⟨_, rfl⟩ | (exfalso; simp [guardAt] at h; done) | (exfalso; simp [RV] at hy; done)
          obtain ⟨ys, rfl⟩ := ey
          simp only [guardAt, Bool.not_eq_true'] at h
          simp [h]
        · cases x' <;> first
            | rfl
            | (cases y' <;> first | rfl | (exfalso; exact hn ⟨rfl, rfl⟩) | (exfalso; exact ha ⟨_, _, rfl, rfl⟩))
theorem guardA_ok {op : BinOp} {t : TypeId} {ox oy : Operand} (h : guardA P op t ox oy x y = true) (hx : RV M x x') (hy : RV M y y') :
    (eqGuard op t ox oy x' y').run P w = .ok () w := by
  by_cases ho : op = .eql ∨ op = .neq
  · refine guardAt_ok ho ?_ hx hy
    rcases ho with rfl | rfl <;> exact h
  · cases op <;> first | (exact absurd (.inl rfl) ho) | (exact absurd (.inr rfl) ho) | rfl
theorem unaryA_ok {op : UnOp} (h : unaryA op x = some z) (hx : RV M x x') : ∃ z', (Op.unary op x').run P w = .ok z' w ∧ RV M z z' := by
  unfold unaryA at h
  split at h
  · cases hx; injection h with h; subst h; exact ⟨_, rfl, rfl⟩
  · cases hx; injection h with h; subst h; exact ⟨_, rfl, rfl⟩
  · cases hx; injection h with h; subst h; exact ⟨_, rfl, rfl⟩
  · simp at h
theorem convertA_ok {s d : TypeId} (h : convertA P s d x = some z) (hx : RV M x x') : ∃ z', (convert s d x').run P w = .ok z' w ∧ RV M z z' := by
  unfold convertA at h
  split at h
  · rename_i k _ n hs hd
    cases hx; injection h with h; subst h
    exact ⟨_, by simp only [convert, Sem.run_bind, run_underlying hs, run_underlying hd, Result.andThen_ok, Conv.intToInt, Sem.run_pure], rfl⟩
  · rename_i u s' hs hd
    cases hx; injection h with h; subst h
    refine ⟨_, ?_, rfl⟩
    simp only [convert, Sem.run_bind, run_underlying hs, run_underlying hd, Result.andThen_ok]
    cases u <;> rfl
  · simp at h
end pure
end Go.Ai
