/- A region that draws its order: whatever order is drawn, it does what the written order does. -/
import Derived.Test.YthllmdjcogjkoaaDoorAi13
namespace Go.Ai
set_option linter.unusedSimpArgs false
set_option linter.unusedVariables false

/-! ### Which operation stands before which -/
section before
def oneB (look : Nat → Nat) (o : Oper) : Nat := o.after.foldl (fun s e => if Region.binds .any e then s ||| 2 ^ e.on ||| look e.on else s) 0
theorem oneB_spec {look : Nat → Nat} {o : Oper} {i : Nat} (h : (oneB look o).testBit i = true) : ∃ e ∈ o.after, Region.binds .any e = true ∧ (i = e.on ∨ (look e.on).testBit i = true) := by
  unfold oneB at h
  rw [← Array.foldl_toList] at h
  have : ∀ (l : List Edge) (s : Nat), (l.foldl (fun s e => if Region.binds .any e then s ||| 2 ^ e.on ||| look e.on else s) s).testBit i = true →
      s.testBit i = true ∨ ∃ e ∈ l, Region.binds .any e = true ∧ (i = e.on ∨ (look e.on).testBit i = true) := by
    intro l
    induction l with
    | nil => intro s h; exact .inl h
    | cons e l ih =>
      intro s h
      rw [List.foldl_cons] at h
      rcases ih _ h with h | ⟨e', he, hb⟩
      · by_cases hb : Region.binds .any e = true
        · rw [if_pos hb] at h
          simp only [Nat.testBit_or, Bool.or_eq_true] at h
          rcases h with (h | h) | h
          · exact .inl h
          · refine .inr ⟨e, by simp, hb, .inl ?_⟩
            rw [Nat.testBit_two_pow] at h; simpa using (of_decide_eq_true h).symm
          · exact .inr ⟨e, by simp, hb, .inr h⟩
        · rw [if_neg hb] at h; exact .inl h
      · exact .inr ⟨e', by simp [he], hb⟩
  rcases this _ _ h with h | ⟨e, he, hb⟩
  · simp at h
  · exact ⟨e, by simpa using he, hb⟩

theorem foldB : ∀ (l : List Oper) (acc : Array Nat),
    (∀ j, j < acc.size → (l.foldl (fun acc o => acc.push (oneB (fun i => acc.getD i 0) o)) acc).getD j 0 = acc.getD j 0) ∧
    (∀ m o, l[m]? = some o → ∃ acc' : Array Nat, acc'.size = acc.size + m ∧ (∀ k, k < acc'.size → acc'.getD k 0 = (l.foldl (fun acc o => acc.push (oneB (fun i => acc.getD i 0) o)) acc).getD k 0) ∧
      (l.foldl (fun acc o => acc.push (oneB (fun i => acc.getD i 0) o)) acc).getD (acc.size + m) 0 = oneB (fun i => acc'.getD i 0) o) := by
  intro l
  induction l with
  | nil => intro acc; exact ⟨fun _ _ => rfl, fun m o h => by simp at h⟩
  | cons o l ih =>
    intro acc
    obtain ⟨h1, h2⟩ := ih (acc.push (oneB (fun i => acc.getD i 0) o))
    have e1 : ∀ j, j < acc.size → (l.foldl (fun acc o => acc.push (oneB (fun i => acc.getD i 0) o)) (acc.push (oneB (fun i => acc.getD i 0) o))).getD j 0 = acc.getD j 0 := by
      intro j hj
      rw [h1 j (by simp; omega)]
      simp [Array.getD_eq_getD_getElem?, Array.getElem?_push, Nat.ne_of_lt hj]
    refine ⟨fun j hj => e1 j hj, fun m o' hm => ?_⟩
    cases m with
    | zero =>
      simp only [List.getElem?_cons_zero, Option.some.injEq] at hm; subst hm
      refine ⟨acc, rfl, fun k hk => (e1 k hk).symm, ?_⟩
      rw [List.foldl_cons, h1 _ (by simp)]
      simp [Array.getD_eq_getD_getElem?]
    | succ m =>
      simp only [List.getElem?_cons_succ] at hm
      obtain ⟨acc', a1, a2, a3⟩ := h2 m o' hm
      refine ⟨acc', by rw [a1]; simp; omega, a2, ?_⟩
      rw [List.foldl_cons]
      rw [← a3]; congr 1; simp; omega
theorem before_spec {ops : Array Oper} {i j : Nat} {o : Oper} (ho : ops[j]? = some o) (h : ((Region.before ops).getD j 0).testBit i = true) :
    ∃ e ∈ o.after, Region.binds .any e = true ∧ (i = e.on ∨ ((Region.before ops).getD e.on 0).testBit i = true) := by
  have hb : Region.before ops = ops.toList.foldl (fun acc o => acc.push (oneB (fun i => acc.getD i 0) o)) #[] := by
    unfold Region.before; rw [← Array.foldl_toList]; rfl
  obtain ⟨_, h2⟩ := foldB ops.toList #[]
  obtain ⟨acc', a1, a2, a3⟩ := h2 j o (by simpa using ho)
  rw [hb] at h
  simp only [Array.size_empty, Nat.zero_add] at a3 a1
  rw [a3] at h
  obtain ⟨e, he, hbi, hor⟩ := oneB_spec h
  refine ⟨e, he, hbi, ?_⟩
  rcases hor with hor | hor
  · exact .inl hor
  · right
    rw [hb]
    by_cases hk : e.on < acc'.size
    · rw [← a2 _ hk]; exact hor
    · simp [Array.getD_eq_getD_getElem?, Array.getElem?_eq_none (Nat.le_of_not_lt hk)] at hor
end before

/-! ### The written order -/
section
variable {P : Program} {inv : Inv} {ops : Array Oper}

/-- What the written order goes through. -/
structure Trace (P : Program) (inv : Inv) (ops : Array Oper) (st : Nat → St) (ws : Nat → List Nat) (ns : List Info) (ds : List (Nat × List Nat)) : Prop where
  step : ∀ j o, ops[j]? = some o → ∃ s1, stepA P (some 0) inv ops o { st j with h := { (st j).h with pb := (st j).h.n, ws := [] } } = some s1 ∧ (st (j + 1)).tm = s1.tm ∧ (st (j + 1)).df = s1.df ∧
    (st (j + 1)).h.t = s1.h.t ∧ (st (j + 1)).h.n = s1.h.n ∧ (st (j + 1)).h.pb = (st j).h.pb ∧ (st (j + 1)).h.ws = s1.h.ws.filter (fun id => decide (id < (st j).h.pb)) ++ (st j).h.ws ∧ ws j = s1.h.ws
  info : ∀ j o, ops[j]? = some o → ns[j]? = some (Info.mk (st j).h.n (st (j + 1)).h.n (readsA (evalA (st j).tm) o.op))
  dirty : ∀ j o, ops[j]? = some o → ws j ≠ [] → (j, ws j) ∈ ds

theorem opsD_trace : ∀ (os : List Oper) (i : Nat) (s s' : St) (ns : List Info) (ds : List (Nat × List Nat)), opsD P inv ops i os s = some (ns, ds, s') →
    ∃ (st : Nat → St) (ws : Nat → List Nat), st i = s ∧ st (i + os.length) = s' ∧
      ∀ j o, os[j]? = some o → (∃ s1, stepA P (some 0) inv ops o { st (i + j) with h := { (st (i + j)).h with pb := (st (i + j)).h.n, ws := [] } } = some s1 ∧ (st (i + j + 1)).tm = s1.tm ∧ (st (i + j + 1)).df = s1.df ∧
        (st (i + j + 1)).h.t = s1.h.t ∧ (st (i + j + 1)).h.n = s1.h.n ∧ (st (i + j + 1)).h.pb = (st (i + j)).h.pb ∧ (st (i + j + 1)).h.ws = s1.h.ws.filter (fun id => decide (id < (st (i + j)).h.pb)) ++ (st (i + j)).h.ws ∧ ws (i + j) = s1.h.ws) ∧
        ns[j]? = some (Info.mk (st (i + j)).h.n (st (i + j + 1)).h.n (readsA (evalA (st (i + j)).tm) o.op)) ∧ (ws (i + j) ≠ [] → (i + j, ws (i + j)) ∈ ds) := by
  intro os
  induction os with
  | nil =>
    intro i s s' ns ds e
    simp only [opsD, Option.some.injEq, Prod.mk.injEq] at e
    obtain ⟨rfl, rfl, rfl⟩ := e
    exact ⟨fun _ => s, fun _ => [], rfl, rfl, fun j o h => by simp at h⟩
  | cons o os ih =>
    intro i s s' ns ds e
    simp only [opsD] at e
    split at e
    · rename_i s1 hs1
      split at e
      · rename_i ns2 ds2 s2 he2
        simp only [Option.some.injEq, Prod.mk.injEq] at e
        obtain ⟨rfl, rfl, rfl⟩ := e
        obtain ⟨st, ws, h1, h2, h3⟩ := ih _ _ _ _ _ he2
        refine ⟨fun j => if j = i then s else st j, fun j => if j = i then s1.h.ws else ws j, by simp, ?_, ?_⟩
        · have : ¬ i + (o :: os).length = i := by simp
          simp only [this, if_false]
          rw [← h2]; congr 1; simp; omega
        · intro j o' hj
          cases j with
          | zero =>
            simp only [List.getElem?_cons_zero, Option.some.injEq] at hj; subst hj
            have hne : ¬ i + 1 = i := by omega
            simp only [Nat.add_zero, if_true, hne, if_false, h1, List.getElem?_cons_zero, Option.some.injEq, true_and]
            refine ⟨⟨s1, hs1, by simp⟩, fun hne => ?_⟩
            split
            · rename_i hw; exact absurd hw hne
            · exact List.mem_cons_self ..
          | succ j =>
            simp only [List.getElem?_cons_succ] at hj
            have n1 : ¬ i + (j + 1) = i := by omega
            have n2 : ¬ i + (j + 1) + 1 = i := by omega
            simp only [n1, n2, if_false, List.getElem?_cons_succ]
            have := h3 j o' hj
            rw [show i + 1 + j = i + (j + 1) by omega] at this
            refine ⟨this.1, this.2.1, fun hne => ?_⟩
            have h4 := this.2.2 hne
            split
            · exact h4
            · exact List.mem_cons_of_mem _ h4
      · cases e
    · cases e
end
end Go.Ai
