/- What an operation does in the model, where the abstract machine does it: addresses, slices, what is built. -/
import Derived.Test.YthllmdjcogjkoaaDoorAi5
namespace Go.Ai
set_option linter.unusedSimpArgs false
set_option linter.unusedVariables false
section
variable {P : Program} {w : World} {M : Mp} {x y z : AV} {x' y' : Value} {t : TypeId}

theorem addr_add (b o n : Nat) : (⟨b, o, none⟩ : Addr).add n = ⟨b, o + n, none⟩ := by
  unfold Addr.add; split
  · subst_vars; rfl
  · rfl
theorem fieldAddrA_ok {f : Nat} (h : fieldAddrA P t x f = some z) (hx : RV M x x') : ∃ z', (Instr.fieldAt t x' f).run P w = .ok z' w ∧ RV M z z' := by
  unfold fieldAddrA at h
  split at h
  · rename_i fields id off hu
    obtain ⟨p, hp, rfl⟩ := hx
    split at h
    · rename_i fd hf
      split at h
      · rename_i n hn
        injection h with h; subst h
        refine ⟨.pointer (some ⟨p.blk, p.base + (off + fd.offset), none⟩), ?_, p, hp, rfl⟩
        simp only [Instr.fieldAt, Sem.run_bind, run_underlying hu, Result.andThen_ok, hf, Instr.sureAddr, Sem.run_pure, fieldPlace, run_sizeOf hn, Nat.add_one_ne_zero, if_false, addr_add, Nat.add_assoc]
      · simp at h
    · simp at h
  · rename_i fields cs off hu
    obtain ⟨b, o, arr, rfl, him⟩ := hx
    split at h
    · rename_i fd hf
      split at h
      · rename_i n hn
        injection h with h; subst h
        refine ⟨.pointer (some ⟨b, o + (off + fd.offset), none⟩), ?_, b, o, arr, rfl, him⟩
        simp only [Instr.fieldAt, Sem.run_bind, run_underlying hu, Result.andThen_ok, hf, Instr.sureAddr, Sem.run_pure, fieldPlace, run_sizeOf hn, Nat.add_one_ne_zero, if_false, addr_add, Nat.add_assoc]
      · simp at h
    · simp at h
  · simp at h
theorem fieldA_ok {f : Nat} (h : fieldA P t x f = some z) (hx : RV M x x') : ∃ z', (Instr.field t x' f).run P w = .ok z' w ∧ RV M z z' := by
  unfold fieldA at h
  split at h
  · rename_i fields cs hu
    obtain ⟨cs', rfl, hc⟩ := hx
    split at h
    · rename_i fd hf
      obtain ⟨v, h1, h2⟩ := run_part (P := P) (w := w) hc h
      exact ⟨v, by simp only [Instr.field, Sem.run_bind, run_underlying hu, Result.andThen_ok, hf, asAgg, Sem.run_pure, h1], h2⟩
    · simp at h
  · simp at h
theorem indexAddrA_ok (h : indexAddrA P t x y = some z) (hx : RV M x x') (hy : RV M y y') : ∃ z', (Instr.indexAt t x' y').run P w = .ok z' w ∧ RV M z z' := by
  unfold indexAddrA at h
  split at h
  · rename_i k i
    cases hy
    split at h
    · rename_i e id off len cap hu
      obtain ⟨p, c, hp, rfl, _, _⟩ := hx
      split at h
      · rename_i n hn
        by_cases hb : 0 ≤ i ∧ i < (len : Int)
        · rw [decide_eq_true hb] at h; simp only [cond_true, Option.some.injEq] at h; subst h
          refine ⟨.pointer (some ⟨p.blk, p.base + (off + i.toNat * n), none⟩), ?_, p, hp, rfl⟩
          simp only [Instr.indexAt, Sem.run_bind, asIntOf, Sem.run_pure, Result.andThen_ok, run_underlying hu, hb, and_self, if_true, run_sizeOf hn, addr_add, Nat.add_assoc]
        · rw [decide_eq_false hb] at h; simp at h
      · simp at h
    · rename_i len e id off hu
      obtain ⟨p, hp, rfl⟩ := hx
      split at h
      · rename_i n hn
        by_cases hb : 0 ≤ i ∧ i < (len : Int)
        · rw [decide_eq_true hb] at h; simp only [cond_true, Option.some.injEq] at h; subst h
          refine ⟨.pointer (some ⟨p.blk, p.base + (off + i.toNat * n), none⟩), ?_, p, hp, rfl⟩
          simp only [Instr.indexAt, Sem.run_bind, asIntOf, Instr.sureAddr, Sem.run_pure, Result.andThen_ok, run_underlying hu, hb, and_self, if_true, run_sizeOf hn, addr_add, Nat.add_assoc]
        · rw [decide_eq_false hb] at h; simp at h
      · simp at h
    · rename_i e m cs hu
      obtain ⟨a, c, rfl, hmc, him⟩ := hx
      split at h
      · rename_i n hn
        by_cases hb : 0 ≤ i ∧ i < (m : Int)
        · rw [decide_eq_true hb] at h; simp only [cond_true, Option.some.injEq] at h; subst h
          rcases him with rfl | ⟨b, o, arr, rfl, him⟩
          · omega
          · refine ⟨.pointer (some ⟨b, o + i.toNat * n, none⟩), ?_, b, o, arr, rfl, him⟩
            simp only [Instr.indexAt, Sem.run_bind, asIntOf, Sem.run_pure, Result.andThen_ok, run_underlying hu, hb, and_self, if_true, run_sizeOf hn, addr_add, Nat.add_assoc]
        · rw [decide_eq_false hb] at h; simp at h
      · simp at h
    · rename_i len e cs off hu
      obtain ⟨b, o, arr, rfl, him⟩ := hx
      split at h
      · rename_i n hn
        by_cases hb : 0 ≤ i ∧ i < (len : Int)
        · rw [decide_eq_true hb] at h; simp only [cond_true, Option.some.injEq] at h; subst h
          refine ⟨.pointer (some ⟨b, o + (off + i.toNat * n), none⟩), ?_, b, o, arr, rfl, him⟩
          simp only [Instr.indexAt, Sem.run_bind, asIntOf, Instr.sureAddr, Sem.run_pure, Result.andThen_ok, run_underlying hu, hb, and_self, if_true, run_sizeOf hn, addr_add, Nat.add_assoc]
        · rw [decide_eq_false hb] at h; simp at h
      · simp at h
    · simp at h
  · simp at h
theorem indexA_ok (h : indexA P t x y = some z) (hx : RV M x x') (hy : RV M y y') : ∃ z', (Instr.index t x' y').run P w = .ok z' w ∧ RV M z z' := by
  unfold indexA at h
  split at h
  · rename_i k i
    cases hy
    split at h
    · rename_i len e cs hu
      obtain ⟨cs', rfl, hc⟩ := hx
      split at h
      · rename_i n hn
        by_cases hb : 0 ≤ i ∧ i < (len : Int)
        · rw [decide_eq_true hb] at h; simp only [cond_true] at h
          obtain ⟨v, h1, h2⟩ := run_part (P := P) (w := w) hc h
          exact ⟨v, by simp only [Instr.index, Sem.run_bind, asIntOf, Sem.run_pure, Result.andThen_ok, run_underlying hu, hb, and_self, if_true, run_sizeOf hn, h1], h2⟩
        · rw [decide_eq_false hb] at h; simp at h
      · simp at h
    · rename_i s hu
      cases hx
      split at h
      · rename_i b hb
        injection h with h; subst h
        exact ⟨.int .u8 b.toNat, by simp only [Instr.index, Sem.run_bind, asIntOf, Sem.run_pure, Result.andThen_ok, run_underlying hu, hb], rfl⟩
      · simp at h
    · simp at h
  · simp at h

/-- The three numbers of a slice expression. -/
theorem run_bounds {isSlice : Bool} {low high mx : Option AV} {low' high' mx' : Option Value} {len cap m h l : Nat}
    (hl : ∀ a, low = some a → ∃ v, low' = some v ∧ RV M a v) (hl0 : low = none → low' = none)
    (hh : ∀ a, high = some a → ∃ v, high' = some v ∧ RV M a v) (hh0 : high = none → high' = none)
    (hm : ∀ a, mx = some a → ∃ v, mx' = some v ∧ RV M a v) (hm0 : mx = none → mx' = none)
    (hne : ∀ a, mx = some a → high ≠ none) (em : boundA mx cap cap = some m) (eh : boundA high m len = some h) (el : boundA low h 0 = some l) :
    (Instr.sliceBounds isSlice len cap low' high' mx').run P w = .ok (l, h, m) w := by
  have rl : (low' = none ∧ l = 0) ∨ ∃ v, low' = some v ∧ ∀ c, (Instr.sliceBound v h c).run P w = .ok l w := by
    cases low with
    | none => simp only [boundA, Option.some.injEq] at el; exact .inl ⟨hl0 rfl, el.symm⟩
    | some a => obtain ⟨v, e, hv⟩ := hl a rfl; exact .inr ⟨v, e, fun c => boundA_run c hv el⟩
  have fin : ∀ (c : BoundsCode), (do
      let l ← match low' with
        | some v => Instr.sliceBound v h c
        | none => pure 0
      pure (l, h, m) : Sem (Nat × Nat × Nat)).run P w = .ok (l, h, m) w := by
    intro c
    rcases rl with ⟨rfl, rfl⟩ | ⟨v, rfl, hv⟩
    · rfl
    · simp only [Sem.run_bind, hv, Result.andThen_ok, Sem.run_pure]
  cases mx with
  | none =>
    obtain rfl := hm0 rfl
    simp only [boundA, Option.some.injEq] at em; subst em
    cases high with
    | none =>
      obtain rfl := hh0 rfl
      simp only [boundA, Option.some.injEq] at eh; subst eh
      rcases rl with ⟨rfl, rfl⟩ | ⟨v, rfl, hv⟩
      · rfl
      · simp only [Instr.sliceBounds, Sem.run_bind, Sem.run_pure, Result.andThen_ok, hv]
    | some a =>
      obtain ⟨v, rfl, hv⟩ := hh a rfl
      rcases rl with ⟨rfl, rfl⟩ | ⟨u, rfl, hu⟩
      · simp only [Instr.sliceBounds, Sem.run_bind, Sem.run_pure, Result.andThen_ok, boundA_run _ hv eh]
      · simp only [Instr.sliceBounds, Sem.run_bind, Sem.run_pure, Result.andThen_ok, boundA_run _ hv eh, hu]
  | some b =>
    obtain ⟨u, rfl, hu⟩ := hm b rfl
    cases high with
    | none => exact absurd rfl (hne b rfl)
    | some a =>
      obtain ⟨v, rfl, hv⟩ := hh a rfl
      rcases rl with ⟨rfl, rfl⟩ | ⟨u', rfl, hu'⟩
      · simp only [Instr.sliceBounds, Sem.run_bind, Sem.run_pure, Result.andThen_ok, boundA_run _ hu em, boundA_run _ hv eh]
      · simp only [Instr.sliceBounds, Sem.run_bind, Sem.run_pure, Result.andThen_ok, boundA_run _ hu em, boundA_run _ hv eh, hu']

theorem boundA_le {x : Option AV} {most d n : Nat} (h : boundA x most d = some n) : n ≤ most ∨ (x = none ∧ n = d) := by
  cases x with
  | none => simp only [boundA, Option.some.injEq] at h; exact .inr ⟨rfl, h.symm⟩
  | some a =>
    cases a <;> simp only [boundA, reduceCtorEq] at h
    rename_i k i
    by_cases hb : 0 ≤ i ∧ i ≤ (most : Int)
    · rw [decide_eq_true hb] at h; simp only [cond_true, Option.some.injEq] at h; subst h; exact .inl (by omega)
    · rw [decide_eq_false hb] at h; simp at h
theorem boundA_more {x : Option AV} {most most' d n : Nat} (hm : most ≤ most') (h : boundA x most d = some n) : boundA x most' d = some n := by
  cases x with
  | none => exact h
  | some a =>
    cases a <;> simp only [boundA, reduceCtorEq] at h ⊢
    rename_i k i
    by_cases hb : 0 ≤ i ∧ i ≤ (most : Int)
    · rw [decide_eq_true hb] at h; simp only [cond_true, Option.some.injEq] at h
      rw [decide_eq_true (by omega)]; simp only [cond_true, Option.some.injEq]; exact h
    · rw [decide_eq_false hb] at h; simp at h

theorem sliceA_ok {low high mx : Option AV} {low' high' mx' : Option Value} (h : sliceA P t x low high mx = some z) (hx : RV M x x')
    (hl : ∀ a, low = some a → ∃ v, low' = some v ∧ RV M a v) (hl0 : low = none → low' = none)
    (hh : ∀ a, high = some a → ∃ v, high' = some v ∧ RV M a v) (hh0 : high = none → high' = none)
    (hm : ∀ a, mx = some a → ∃ v, mx' = some v ∧ RV M a v) (hm0 : mx = none → mx' = none) :
    ∃ z', (Instr.sliceAt t x' low' high' mx').run P w = .ok z' w ∧ RV M z z' := by
  unfold sliceA at h
  split at h
  · -- a string
    rename_i hu
    split at h
    · rename_i s
      cases hx
      rw [hm0 rfl]
      split at h
      · rename_i hi eh
        split at h
        · rename_i lo el
          injection h with h; subst h
          have hb := run_bounds (P := P) (w := w) (isSlice := false) (mx := none) (mx' := none) (cap := s.size) (m := s.size) hl hl0 hh hh0 (by simp) (by simp) (by simp) rfl eh el
          exact ⟨.string (s.extract lo hi), by simp only [Instr.sliceAt, Instr.slice, Sem.run_bind, run_underlying hu, Result.andThen_ok, Option.isSome_none, Bool.false_eq_true, if_false, hb, Sem.run_pure, Sem.run_ite], rfl⟩
        · simp at h
      · simp at h
    · simp at h
  · -- a slice
    rename_i e hu
    split at h
    · simp at h
    · rename_i n hn
      have fin : ∀ {a : Option Addr} {len c l hi m : Nat}, (Instr.sliceBounds true len c low' high' mx').run P w = .ok (l, hi, m) w →
          (Instr.sliceAt t (.slice a len c) low' high' mx').run P w = .ok (.slice (if m = l then a else a.map (·.add (l * n))) (hi - l) (m - l)) w := by
        intro a len c l hi m hb
        simp only [Instr.sliceAt, Instr.slice, Sem.run_bind, run_underlying hu, Result.andThen_ok, hb, run_sizeOf hn, Sem.run_pure]
      split at h
      · -- nil
        cases hx
        have key : ∃ m hi l, boundA mx 0 0 = some m ∧ boundA high 0 0 = some hi ∧ boundA low 0 0 = some l ∧ z = .nilslice ∧ (∀ a, mx = some a → high ≠ none) := by
          split at h
          · simp at h
          · rename_i hne
            split at h
            · rename_i e1 e2 e3
              injection h with h
              exact ⟨_, _, _, e1, e2, e3, h.symm, fun a ha hb => hne a ha hb⟩
            · simp at h
        obtain ⟨m, hi, l, e1, e2, e3, rfl, hne⟩ := key
        have m0 : m = 0 := by rcases boundA_le e1 with h | ⟨_, h⟩ <;> omega
        have h0 : hi = 0 := by rcases boundA_le e2 with h | ⟨_, h⟩ <;> omega
        have l0 : l = 0 := by rcases boundA_le e3 with h | ⟨_, h⟩ <;> omega
        subst m0 h0 l0
        refine ⟨_, fin (run_bounds hl hl0 hh hh0 hm hm0 hne e1 e2 e3), ?_⟩
        simp [RV]
      · -- a capacity that is known
        rename_i id off len c
        obtain ⟨p, c', hp, rfl, hlc, rfl⟩ := hx
        split at h
        · simp at h
        · rename_i hne
          split at h
          · simp at h
          · rename_i m em
            split at h
            · simp at h
            · rename_i hi eh
              split at h
              · simp at h
              · rename_i l el
                injection h with h; subst h
                refine ⟨_, fin (run_bounds hl hl0 hh hh0 hm hm0 (fun a ha hb => hne a ha hb) em eh el), p, m - l, hp, ?_, ?_, rfl⟩
                · by_cases hml : m = l
                  · simp [hml]
                  · simp only [hml, if_false, Option.map_some, addr_add, Nat.add_assoc]
                · have : hi ≤ m := by
                    rcases boundA_le eh with h | ⟨h1, h2⟩
                    · exact h
                    · have hmc : m = c' := by
                        cases mx with
                        | none => simp only [boundA, Option.some.injEq] at em; exact em.symm
                        | some a => exact absurd h1 (fun e => hne a rfl e)
                      omega
                  omega
      · -- one that goes to the end
        rename_i id off len zz
        obtain ⟨p, c', hp, rfl, hlc, hcap⟩ := hx
        simp only [capOk] at hcap
        by_cases hz : zz = n
        · rw [decide_eq_true hz] at h; subst hz
          simp only [cond_true] at h
          split at h
          · rename_i hi0
            split at h
            · simp at h
            · rename_i hi eh
              split at h
              · simp at h
              · rename_i l el
                have hhl : hi ≤ len := by rcases boundA_le eh with h | ⟨_, h⟩ <;> omega
                have hll : l ≤ hi := by rcases boundA_le el with h | ⟨_, h⟩ <;> omega
                have hb := run_bounds (P := P) (w := w) (isSlice := true) (mx := none) (cap := c') (m := c') hl hl0 hh hh0 (by simp) hm0 (by simp) rfl (boundA_more hlc eh) el
                by_cases hl0' : l = 0
                · rw [decide_eq_true hl0'] at h; simp only [cond_true, Option.some.injEq] at h; subst h
                  refine ⟨_, fin hb, p, c' - l, hp, ?_, by omega, ?_⟩
                  · subst hl0'
                    simp only [Nat.zero_mul, Option.map_some, addr_add, Nat.add_zero, Nat.sub_zero]
                    split <;> rfl
                  · subst hl0'; simpa [capOk] using hcap
                · rw [decide_eq_false hl0'] at h; simp only [cond_false] at h
                  by_cases hlh : l < hi
                  · rw [decide_eq_true hlh] at h; simp only [cond_true, Option.some.injEq] at h; subst h
                    refine ⟨_, fin hb, p, c' - l, hp, ?_, by omega, ?_⟩
                    · rw [if_neg (by omega)]
                      simp only [Option.map_some, addr_add, Nat.add_assoc]
                    · simp only [capOk]
                      have : c' * zz = (c' - l) * zz + l * zz := by rw [← Nat.add_mul]; congr 1; omega
                      omega
                  · rw [decide_eq_false hlh] at h; simp only [cond_false, Option.some.injEq] at h; subst h
                    have hle : l = hi := by omega
                    subst hle
                    refine ⟨_, fin hb, p, (if c' = l then ⟨p.blk, p.base + off, none⟩ else (⟨p.blk, p.base + off, none⟩ : Addr).add (l * zz)), c' - l, hp, ?_, ?_⟩
                    · rw [Nat.sub_self]
                      show Value.slice _ 0 (c' - l) = Value.slice (some (if c' = l then _ else _)) 0 (c' - l)
                      split <;> rfl
                    · by_cases hcl : c' = l
                      · left; omega
                      · right
                        rw [if_neg hcl]
                        refine ⟨by simp only [addr_add, Nat.add_assoc], ?_⟩
                        have : c' * zz = (c' - l) * zz + l * zz := by rw [← Nat.add_mul]; congr 1; omega
                        omega
          · simp at h
          · rename_i a b
            split at h
            · simp at h
            · rename_i m em
              split at h
              · simp at h
              · rename_i hi eh
                split at h
                · simp at h
                · rename_i l el
                  injection h with h; subst h
                  have hml : m ≤ len := by rcases boundA_le em with h | ⟨h, _⟩; exact h; cases h
                  have hhm : hi ≤ m := by rcases boundA_le eh with h | ⟨h, _⟩; exact h; cases h
                  have em' : boundA (some a) c' c' = some m := by
                    have := boundA_more hlc em
                    cases a <;> simp only [boundA, reduceCtorEq] at this ⊢ <;> exact this
                  have eh' : boundA (some b) m len = some hi := by
                    cases b <;> simp only [boundA, reduceCtorEq] at eh ⊢ <;> exact eh
                  refine ⟨_, fin (run_bounds hl hl0 hh hh0 hm hm0 (by simp) em' eh' el), p, m - l, hp, ?_, by omega, rfl⟩
                  by_cases hml : m = l
                  · simp [hml]
                  · simp only [hml, if_false, Option.map_some, addr_add, Nat.add_assoc]
        · rw [decide_eq_false hz] at h; simp at h
      · -- no element
        rename_i id off zz
        obtain ⟨p, a, c', hp, rfl, hcap⟩ := hx
        have key : ∃ hi l, boundA high 0 0 = some hi ∧ boundA low 0 0 = some l ∧ z = .empty id off zz ∧ mx = none := by
          split at h
          · rename_i e1 e2
            injection h with h
            exact ⟨_, _, e1, e2, h.symm, rfl⟩
          · simp at h
        obtain ⟨hi, l, e2, e3, rfl, rfl⟩ := key
        have h0 : hi = 0 := by rcases boundA_le e2 with h | ⟨_, h⟩ <;> omega
        have l0 : l = 0 := by rcases boundA_le e3 with h | ⟨_, h⟩ <;> omega
        subst h0 l0
        refine ⟨_, fin (run_bounds (cap := c') (m := c') hl hl0 hh hh0 hm hm0 (by simp) rfl (boundA_more (Nat.zero_le _) e2) e3), p, a, c', hp, ?_, hcap⟩
        obtain ⟨ab, ao, as⟩ := a
        simp only [Nat.zero_mul, Nat.sub_zero, Option.map_some]
        split
        · rfl
        · rfl
      · -- memory that stays
        rename_i mm cs
        obtain ⟨a, c', rfl, hmc, him⟩ := hx
        by_cases hlen : cs.length = mm * n
        · rw [decide_eq_true hlen] at h; simp only [cond_true] at h
          split at h
          · simp at h
          · split at h
            · simp at h
            · rename_i hi eh
              split at h
              · simp at h
              · rename_i l el
                injection h with h; subst h
                have hhl : hi ≤ mm := by rcases boundA_le eh with h | ⟨_, h⟩ <;> omega
                have hll : l ≤ hi := by rcases boundA_le el with h | ⟨_, h⟩ <;> omega
                have hb := run_bounds (P := P) (w := w) (isSlice := true) (mx := none) (cap := c') (m := c') hl hl0 hh hh0 (by simp) hm0 (by simp) rfl (boundA_more hmc eh) el
                refine ⟨_, fin hb, _, _, rfl, by omega, ?_⟩
                by_cases hz : hi - l = 0
                · exact .inl hz
                · right
                  rcases him with him | ⟨b, o, arr, rfl, hM, hsz, hrv⟩
                  · omega
                  · have hcl : ¬ c' = l := by omega
                    rw [if_neg hcl]
                    have e1 : l * n ≤ cs.length := by rw [hlen]; exact Nat.mul_le_mul_right _ (by omega)
                    have e2 : (hi - l) * n ≤ cs.length - l * n := by rw [hlen, ← Nat.sub_mul]; exact Nat.mul_le_mul_right _ (by omega)
                    have e3 : ((cs.drop (l * n)).take ((hi - l) * n)).length = (hi - l) * n := by rw [List.length_take, List.length_drop]; omega
                    refine ⟨b, o + l * n, arr, by simp only [Option.map_some, addr_add], hM, by rw [e3]; omega, ?_⟩
                    rw [e3]
                    have := (hrv.drop (l * n)).take ((hi - l) * n)
                    simp only [List.drop_take, List.take_take, List.drop_drop] at this
                    rw [Nat.min_eq_left (by omega)] at this
                    exact this
        · rw [decide_eq_false hlen] at h; simp at h
      · simp at h
  · -- an array's address
    rename_i len e hu
    split at h
    · rename_i n id off hn
      obtain ⟨p, hp, rfl⟩ := hx
      split at h
      · simp at h
      · rename_i hne
        split at h
        · simp at h
        · rename_i m em
          split at h
          · simp at h
          · rename_i hi eh
            split at h
            · simp at h
            · rename_i l el
              injection h with h; subst h
              have hb := run_bounds (P := P) (w := w) (isSlice := false) hl hl0 hh hh0 hm hm0 (fun a ha hb => hne a ha hb) em eh el
              refine ⟨.slice (some (if m = l then ⟨p.blk, p.base + off, none⟩ else (⟨p.blk, p.base + off, none⟩ : Addr).add (l * n))) (hi - l) (m - l), ?_, p, m - l, hp, ?_, ?_, rfl⟩
              · simp only [Instr.sliceAt, Instr.sureAddr, Sem.run_bind, run_underlying hu, Result.andThen_ok, hb, run_sizeOf hn, Sem.run_pure]
              · by_cases hml : m = l
                · simp [hml]
                · simp only [hml, if_false, addr_add, Nat.add_assoc]
              · have : hi ≤ m := by
                  rcases boundA_le eh with h | ⟨h1, h2⟩
                  · exact h
                  · have hmc : m = len := by
                      cases mx with
                      | none => simp only [boundA, Option.some.injEq] at em; exact em.symm
                      | some a => exact absurd h1 (fun e => hne a rfl e)
                    omega
                omega
    · simp at h
  · simp at h
end
end Go.Ai
