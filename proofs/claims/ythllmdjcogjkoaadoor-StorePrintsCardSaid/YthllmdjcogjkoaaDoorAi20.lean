/- Heaps that bear a tape of answers: no operation looks at it. -/
import Derived.Test.YthllmdjcogjkoaaDoorAi19
namespace Go.Ai
set_option linter.unusedSimpArgs false
set_option linter.unusedVariables false

abbrev Tape := List (AV × Tr × Nat × List Nat)
def AH.tape (h : AH) (T : Tape) : AH := { t := h.t, n := h.n, pb := h.pb, ws := h.ws, tp := T }
def tapeR (T : Tape) (r : AV × AH) : AV × AH := (r.1, r.2.tape T)
section
variable {P : Program} {h : AH} {T : Tape}
theorem get_tape (id : Nat) : (h.tape T).get id = h.get id := rfl
theorem push_tape (o : AO) : (h.tape T).push o = (h.push o).tape T := rfl
theorem set_tape (id : Nat) (o : AO) : (h.tape T).set id o = (h.set id o).tape T := rfl
theorem storeCellsA_tape (id off : Nat) (ns : List AV) : storeCellsA (h.tape T) id off ns = (storeCellsA h id off ns).map (·.tape T) := by
  unfold storeCellsA
  split
  · rfl
  · rw [get_tape]
    split
    · rename_i cs _
      cases (decide (off + ns.length ≤ cs.length) && ns.all AV.one) <;> rfl
    · rename_i cs _
      cases (decide (off + ns.length ≤ cs.length) && ns.all AV.one) <;> rfl
    · rfl
theorem bif_map {α β : Type} {f : α → β} {b : Bool} {x : Option α} {y : Option β} (e : y = x.map f) : (bif b then y else none) = (bif b then x else none).map f := by cases b; rfl; exact e
theorem newVarA_tape (v : AV) : newVarA (h.tape T) v = (newVarA h v).map (tapeR T) := by
  unfold newVarA; split <;> rfl
theorem allocA_tape (t : TypeId) (v : AV) : allocA P (h.tape T) t v = (allocA P h t v).map (tapeR T) := by
  unfold allocA
  cases isBld P t
  · exact newVarA_tape v
  · simp only [cond_true]; split <;> rfl
theorem dataA_tape (args : List AV) : dataA (h.tape T) args = (dataA h args).map (tapeR T) := by
  unfold dataA; split <;> rfl
theorem textA_tape (ts args : List _) : textA P (h.tape T) ts args = (textA P h ts args).map (tapeR T) := by
  unfold textA
  split
  · rfl
  · rfl
  · rw [get_tape]
    split
    · refine bif_map ?_
      split
      · split <;> rfl
      · rfl
    · rfl
  · rfl
theorem storeA_tape (t : TypeId) (a v : AV) : storeA P (h.tape T) t a v = (storeA P h t a v).map (·.tape T) := by
  unfold storeA
  split
  · rw [storeCellsA_tape]; exact bif_map rfl
  · rfl
theorem buildSliceA_tape (t : TypeId) (len : Nat) (ps : List (Nat × AV)) : buildSliceA P (h.tape T) t len ps = (buildSliceA P h t len ps).map (tapeR T) := by
  unfold buildSliceA
  split
  · rfl
  · split
    · rename_i n z _ _
      cases decide (len * n ≤ 2 ^ 24)
      · rfl
      · simp only [cond_true]; split <;> rfl
    · rfl
theorem makeSliceA_tape (t : TypeId) (l c : AV) : makeSliceA P (h.tape T) t l c = (makeSliceA P h t l c).map (tapeR T) := by
  unfold makeSliceA
  split
  · split
    · exact bif_map rfl
    · rfl
  · rfl
theorem makeMapA_tape (t : TypeId) (r : Option AV) : makeMapA P (h.tape T) t r = (makeMapA P h t r).map (tapeR T) := by
  unfold makeMapA
  split
  · rfl
  · split <;> rfl
  · rfl
theorem mapUpdateA_tape (t : TypeId) (m k v : AV) : mapUpdateA P (h.tape T) t m k v = (mapUpdateA P h t m k v).map (·.tape T) := by
  unfold mapUpdateA
  split
  · rw [get_tape]
    split
    · generalize (k.key && _) = b
      cases b
      · rfl
      · simp only [cond_true]; split <;> rfl
    · rfl
  · rfl
theorem appendA_tape (ts : List TypeId) (as : List AV) : appendA P (h.tape T) ts as = (appendA P h ts as).map (tapeR T) := by
  have hm : ∀ e z xt x, moreA P (h.tape T) e z xt x = moreA P h e z xt x := fun _ _ _ _ => rfl
  have hf : ∀ z n x, firstA (h.tape T) z n x = firstA h z n x := fun _ _ _ => rfl
  unfold appendA
  split
  · split
    · rfl
    · split
      · rw [hm]
        split
        · rfl
        · rename_i m ns _
          split
          · cases decide (m = 0)
            · simp only [cond_false]; exact bif_map rfl
            · rfl
          · rename_i id off len c
            cases decide (len + m ≤ c)
            · simp only [cond_false]
              refine bif_map ?_
              rw [hf]
              split <;> rfl
            · simp only [cond_true]
              rw [storeCellsA_tape]
              generalize storeCellsA h id _ ns = q
              cases q <;> rfl
          · rename_i id off len z
            refine bif_map ?_
            cases decide (m = 0)
            · simp only [cond_false]
              rw [get_tape]
              split
              · rename_i cs _
                cases decide (off + len * z + m * z ≤ cs.length)
                · simp only [cond_false]
                  refine bif_map ?_
                  split <;> rfl
                · simp only [cond_true]
                  rw [storeCellsA_tape]
                  cases storeCellsA h id (off + len * z) ns <;> rfl
              · refine bif_map ?_
                split <;> rfl
              · rfl
            · rfl
          · rename_i id off z
            refine bif_map ?_
            cases decide (m = 0)
            · simp only [cond_false]
              rw [get_tape]
              split
              · exact bif_map rfl
              · rfl
            · rfl
          · rfl
      · rfl
  · rfl
theorem copyA_tape (ts : List TypeId) (as : List AV) : copyA P (h.tape T) ts as = (copyA P h ts as).map (tapeR T) := by
  have hf : ∀ z n x, firstA (h.tape T) z n x = firstA h z n x := fun _ _ _ => rfl
  unfold copyA
  split
  · split
    · rfl
    · split
      · rw [hf]
        split
        · rw [storeCellsA_tape]
          rename_i id off len _ _ _ _ cs _
          cases storeCellsA h id off cs <;> rfl
        · rfl
      · rfl
      · rfl
  · rfl
theorem clearA_tape (ts : List TypeId) (as : List AV) : clearA P (h.tape T) ts as = (clearA P h ts as).map (·.tape T) := by
  unfold clearA
  split
  · split
    · rfl
    · rfl
    · rfl
    · split
      · exact storeCellsA_tape _ _ _
      · rfl
    · rw [get_tape]; split <;> rfl
    · rfl
  · rfl
theorem builtinA_tape (b : Builtin) (ts : List TypeId) (as : List AV) : builtinA P (h.tape T) b ts as = (builtinA P h b ts as).map (tapeR T) := by
  cases b <;> simp only [builtinA, appendA_tape, copyA_tape, clearA_tape, dataA_tape, textA_tape, Option.map_map]
  case len => split
              · have : ∀ t x, lenA P (h.tape T) t x = lenA P h t x := fun _ _ => rfl
                rw [this, Option.map_map]; rfl
              · rfl
  case cap => split
              · rw [Option.map_map]; rfl
              · rfl
  case clear => rfl
  case max => split
              · rw [Option.map_map]; rfl
              · rfl
  case min => split
              · rw [Option.map_map]; rfl
              · rfl
  all_goals rfl
theorem vh {x : Option AV} : (x.map fun v => (v, h.tape T)) = (x.map fun v => (v, h)).map (tapeR T) := by cases x <;> rfl
theorem opA_tape (ρ : Operand → Option AV) (op : Op) : opA P ρ op (h.tape T) = (opA P ρ op h).map (tapeR T) := by
  have hl : ∀ t a, loadA P (h.tape T) t a = loadA P h t a := fun _ _ => rfl
  have hk : ∀ t m k ok, lookupA P (h.tape T) t m k ok = lookupA P h t m k ok := fun _ _ _ _ => rfl
  cases op <;> simp only [opA, hl, hk, vh, newVarA_tape, allocA_tape, buildSliceA_tape, makeSliceA_tape, makeMapA_tape, storeA_tape, mapUpdateA_tape]
  case call c =>
    obtain ⟨callee, args, ats⟩ := c
    cases callee <;> simp only [opA]
    · rfl
    · rfl
    · split
      · exact builtinA_tape _ _ _
      · rfl
  all_goals (first | rfl | (split <;> first | rfl | exact vh | exact bif_map (by rw [Option.map_map]) | (split <;> first | rfl | exact vh) | (simp only [Option.map_map]; rfl)))
end
end Go.Ai
