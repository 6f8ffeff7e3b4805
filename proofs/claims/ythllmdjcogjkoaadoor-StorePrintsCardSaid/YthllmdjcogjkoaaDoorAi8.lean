/- What an operation does in the model, where the abstract machine does it: what is built, maps, the built-in functions. -/
import Derived.Test.YthllmdjcogjkoaaDoorAi7
namespace Go.Ai
set_option linter.unusedSimpArgs false
set_option linter.unusedVariables false

theorem mapOpt_ok {α β γ : Type} {f : α → Option β} {g : α → γ} {R : β → γ → Prop} (hf : ∀ a b, f a = some b → R b (g a)) :
    ∀ {l : List α} {bs : List β}, mapOpt f l = some bs → bs.length = l.length ∧ ∀ (i : Nat) b, bs[i]? = some b → ∃ a, l[i]? = some a ∧ R b (g a)
  | [], bs, h => by simp only [mapOpt, Option.some.injEq] at h; subst h; simp
  | a :: l, bs, h => by
    simp only [mapOpt] at h
    split at h
    · rename_i b bs' hb hbs
      injection h with h; subst h
      obtain ⟨h1, h2⟩ := mapOpt_ok hf hbs
      refine ⟨by simp [h1], fun i b' hb' => ?_⟩
      cases i with
      | zero => simp at hb'; subst hb'; exact ⟨a, rfl, hf _ _ hb⟩
      | succ i => simp at hb'; simpa using h2 i b' hb'
    · simp at h
theorem mapOpt_RVs {M : Mp} {ρA : Operand → Option AV} {ρ : Operand → Value} (hρ : ∀ x a, ρA x = some a → RV M a (ρ x)) :
    ∀ {l : List Operand} {as : List AV}, mapOpt ρA l = some as → RVs M as (l.map ρ)
  | [], as, h => by simp only [mapOpt, Option.some.injEq] at h; subst h; rfl
  | x :: l, as, h => by
    simp only [mapOpt] at h
    split at h
    · rename_i b bs hb hbs
      injection h with h; subst h
      exact .cons (hρ _ _ hb) (mapOpt_RVs hρ hbs)
    · simp at h

def RPs (M : Mp) : List (Nat × AV) → List (Nat × Value) → Prop
  | [], ps => ps = []
  | (i, a) :: as, ps => ∃ v rest, ps = (i, v) :: rest ∧ RV M a v ∧ RPs M as rest
theorem mapOpt_RPs {M : Mp} {ρA : Operand → Option AV} {ρ : Operand → Value} (hρ : ∀ x a, ρA x = some a → RV M a (ρ x)) :
    ∀ {l : List (Nat × Operand)} {as : List (Nat × AV)}, mapOpt (fun p : Nat × Operand => (ρA p.2).map fun v => (p.1, v)) l = some as → RPs M as (l.map fun p => (p.1, ρ p.2))
  | [], as, h => by simp only [mapOpt, Option.some.injEq] at h; subst h; rfl
  | x :: l, as, h => by
    simp only [mapOpt] at h
    split at h
    · rename_i b bs hb hbs
      injection h with h; subst h
      simp only [Option.map_eq_some_iff] at hb
      obtain ⟨v, hv, rfl⟩ := hb
      exact ⟨_, _, rfl, hρ _ _ hv, mapOpt_RPs hρ hbs⟩
    · simp at h

theorem foldl_splice (vs : List Value) : ∀ (cells : Array Value) (off i : Nat), off + i + vs.length ≤ cells.size →
    ((vs.zipIdx i).foldl (fun (cs : Array Value) (c : Value × Nat) => cs.setIfInBounds (off + c.2) c.1) cells).toList = spliceV cells.toList (off + i) vs := by
  induction vs with
  | nil => intro cells off i h; simp [spliceV]
  | cons v vs ih =>
    intro cells off i h
    simp only [List.length_cons] at h
    simp only [List.zipIdx_cons, List.foldl_cons]
    rw [ih _ _ _ (by simp; omega)]
    simp only [Array.toList_setIfInBounds]
    have hl : cells.toList.length = cells.size := by simp
    apply List.ext_getElem?
    intro j
    rw [spliceV_get (by rw [List.length_set, hl]; omega), spliceV_get (by rw [hl, List.length_cons]; omega), List.length_cons]
    by_cases h3 : j = off + i
    · subst h3
      rw [if_neg (by omega), if_pos (by omega), List.getElem?_set_self (by rw [hl]; omega), Nat.sub_self]
      rfl
    · by_cases h4 : off + (i + 1) ≤ j ∧ j < off + (i + 1) + vs.length
      · rw [if_pos h4, if_pos (by omega)]
        rw [show j - (off + i) = (j - (off + (i + 1))) + 1 by omega, List.getElem?_cons_succ]
      · rw [if_neg h4, if_neg (by omega), List.getElem?_set_ne (by omega)]
theorem fillA_ok {M : Mp} {pA pC : Nat → Option (Nat × Nat)} (hp : ∀ i r, pA i = some r → pC i = some r) :
    ∀ {parts : List (Nat × AV)} {parts' : List (Nat × Value)} {cells cs : List AV} {cells' : Array Value}, fillA pA cells parts = some cs → RPs M parts parts' → RVs M cells cells'.toList →
      ∃ cs', Instr.fill pC cells' parts' = some cs' ∧ RVs M cs cs'.toList
  | [], parts', cells, cs, cells', h, hP, hc => by
    simp only [fillA, Option.some.injEq] at h; subst h
    cases hP
    exact ⟨cells', rfl, hc⟩
  | (i, a) :: parts, parts', cells, cs, cells', h, hP, hc => by
    obtain ⟨v, rest, rfl, ha, hr⟩ := hP
    simp only [fillA] at h
    split at h
    · rename_i off size vs hpi hb
      by_cases hl : vs.length = size ∧ off + vs.length ≤ cells.length
      · rw [decide_eq_true hl] at h; simp only [cond_true] at h
        have hv := ha.box hb
        have hvl : v.cells.size = vs.length := by rw [hv.length]; simp
        have hcl : cells.length = cells'.size := by rw [hc.length]; simp
        have hs : RVs M (splice cells off vs) (v.cells.zipIdx.foldl (fun cs (c, j) => cs.setIfInBounds (off + j) c) cells').toList := by
          have := foldl_splice v.cells.toList cells' off 0 (by simp; omega)
          rw [← Array.foldl_toList, Array.toList_zipIdx]
          rw [this]
          exact splice_ok hc hv off
        obtain ⟨cs', h1, h2⟩ := fillA_ok hp h hr hs
        refine ⟨cs', ?_, h2⟩
        simp only [Instr.fill, hp _ _ hpi]
        rw [if_neg]
        · exact h1
        · rw [hvl]; simp; omega
      · rw [decide_eq_false hl] at h; simp at h
    · simp at h

theorem run_mapM_list {P : Program} {w : World} {α β : Type} {f : α → Sem β} {g : α → Option β} (hf : ∀ a b, g a = some b → (f a).run P w = .ok b w) :
    ∀ {l : List α} {bs : List β}, mapOpt g l = some bs → (l.mapM f).run P w = .ok bs w
  | [], bs, h => by simp only [mapOpt, Option.some.injEq] at h; subst h; simp
  | a :: l, bs, h => by
    simp only [mapOpt] at h
    split at h
    · rename_i b bs' hb hbs
      injection h with h; subst h
      simp only [List.mapM_cons, Sem.run_bind, hf _ _ hb, Result.andThen_ok, run_mapM_list hf hbs, Sem.run_pure]
    · simp at h
theorem run_mapM {P : Program} {w : World} {α β : Type} {f : α → Sem β} {g : α → Option β} (hf : ∀ a b, g a = some b → (f a).run P w = .ok b w) {l : Array α} {bs : List β} (h : mapOpt g l.toList = some bs) :
    (l.mapM f).run P w = .ok bs.toArray w := by
  rw [Array.mapM_eq_mapM_toList, Sem.run_map, run_mapM_list hf h, Result.andThen_ok]

section
variable {P : Program} {B : Nat} {w0 w : World} {M : Mp} {X : Nat → Option AO} {h h' : AH} {t : TypeId} {z x : AV} {x' : Value}

theorem buildA_ok {parts : List (Nat × AV)} {parts' : Array (Nat × Value)} (e : buildA P t parts = some z) (hp : RPs M parts parts'.toList) : ∃ z', (Instr.build t parts').run P w = .ok z' w ∧ RV M z z' := by
  unfold buildA at e
  split at e
  · rename_i zero hz
    obtain ⟨zv, h1, h2⟩ := run_zeroValue (P := P) (w := w) (M := M) hz
    obtain ⟨zc, rfl, hzc⟩ := h2
    split at e
    · rename_i fields hu
      split at e
      · rename_i places hpl
        simp only [Option.map_eq_some_iff] at e
        obtain ⟨cs, hcs, rfl⟩ := e
        have hm : (fields.mapM fun f => do pure (f.offset, ← sizeOf f.type) : Sem (Array (Nat × Nat))).run P w = .ok places.toArray w := by
          refine run_mapM (g := fun f => (szOf P f.type).map fun n => (f.offset, n)) (fun f b hb => ?_) hpl
          simp only [Option.map_eq_some_iff] at hb
          obtain ⟨n, hn, rfl⟩ := hb
          simp only [Sem.run_bind, run_sizeOf hn, Result.andThen_ok, Sem.run_pure]
        obtain ⟨cs', h3, h4⟩ := fillA_ok (pC := fun i => places.toArray[i]?) (fun i r hr => by simpa using hr) hcs hp hzc
        refine ⟨.agg cs', ?_, cs', rfl, h4⟩
        simp only [Instr.build, Sem.run_bind, h1, Result.andThen_ok, run_underlying hu, hm, Value.cells, h3, Sem.run_pure]
      · simp at e
    · rename_i len el hu
      split at e
      · rename_i n hn
        simp only [Option.map_eq_some_iff] at e
        obtain ⟨cs, hcs, rfl⟩ := e
        obtain ⟨cs', h3, h4⟩ := fillA_ok (pC := fun i => some (i * n, n)) (fun i r hr => hr) hcs hp hzc
        refine ⟨.agg cs', ?_, cs', rfl, h4⟩
        simp only [Instr.build, Sem.run_bind, h1, Result.andThen_ok, run_underlying hu, run_sizeOf hn, Value.cells, h3, Sem.run_pure]
      · simp at e
    · simp at e
  · simp at e

theorem zeros_list (zs : List Value) (k : Nat) : (List.range (k * zs.length)).map (fun i => zs.toArray[i % zs.toArray.size]!) = (List.replicate k zs).flatten := by
  induction k with
  | zero => simp
  | succ k ih =>
    rw [show (k + 1) * zs.length = zs.length + k * zs.length by rw [Nat.add_mul]; omega, List.range_add, List.map_append, List.replicate_succ, List.flatten_cons, List.map_map]
    congr 1
    · apply List.ext_getElem?
      intro j
      simp only [List.getElem?_map, List.size_toArray]
      by_cases hj : j < zs.length
      · rw [List.getElem?_range hj, List.getElem?_eq_getElem hj]
        simp [Nat.mod_eq_of_lt hj, hj]
      · rw [List.getElem?_eq_none (by simpa using hj), List.getElem?_eq_none (by omega)]; rfl
    · rw [← ih]
      apply List.map_congr_left
      intro i _
      simp only [Function.comp, List.size_toArray, Nat.add_mod_left]
theorem zerosA_ok {zs : List AV} {zs' : List Value} (hz : RVs M zs zs') (k : Nat) : RVs M (zerosA zs k) (List.replicate k zs').flatten := by
  unfold zerosA
  induction k with
  | zero => rfl
  | succ k ih => rw [List.replicate_succ, List.replicate_succ, List.flatten_cons, List.flatten_cons]; exact hz.append ih
theorem zeroCellsA_ok {zs : List AV} (e : zeroCellsA P t = some zs) : ∃ v n, (zeroValue t).run P w = .ok v w ∧ RVs M zs v.cells.toList ∧ szOf P t = some n ∧ zs.length = n := by
  unfold zeroCellsA at e
  split at e
  · rename_i z n hz hn
    split at e
    · rename_i cs hb
      by_cases hl : cs.length = n
      · rw [decide_eq_true hl] at e; simp only [cond_true, Option.some.injEq] at e; subst e
        obtain ⟨v, h1, h2⟩ := run_zeroValue (P := P) (w := w) (M := M) hz
        exact ⟨v, n, h1, h2.box hb, hn, hl⟩
      · rw [decide_eq_false hl] at e; simp at e
    · simp at e
  · simp at e
/-- As many zero cells as k elements have. -/
theorem zeroRow {zs : List AV} {v : Value} {n : Nat} (hz : RVs M zs v.cells.toList) (hn : zs.length = n) (k : Nat) (c : Array Value) (hc : c = if k * n = 0 then #[] else v.cells) :
    RVs M (zerosA zs k) ((Array.range (k * n)).map (c[· % c.size]!)).toList := by
  by_cases h0 : k * n = 0
  · rw [h0]
    have := zerosA_ok hz k
    have hl : (zerosA zs k).length = 0 := by
      unfold zerosA; simp [hn, h0]
    rw [List.length_eq_zero_iff.1 hl]
    simp [RVs]
  · rw [if_neg h0] at hc; subst hc
    have hvl : v.cells.toList.length = n := by rw [← hz.length]; exact hn
    have := zeros_list v.cells.toList k
    rw [hvl] at this
    simp only [Array.toList_map, Array.toList_range]
    have e2 : (List.range (k * n)).map (fun i => v.cells[i % v.cells.size]!) = (List.replicate k v.cells.toList).flatten := by
      rw [← this]
    rw [e2]
    exact zerosA_ok hz k

theorem buildSliceA_ok {len : Nat} {parts : List (Nat × AV)} {parts' : Array (Nat × Value)} {r : AV × AH} (e : buildSliceA P h t len parts = some r) (hp : RPs M parts parts'.toList)
    (R : Rel B w0 M X w) (hM : M h.n = none) :
    ∃ o, r.2 = h.push o ∧ ∃ M' w' p', Stp B w0 M h r.2 (ovw h r.2 X) M' w' ∧ RV M' r.1 p' ∧ (Instr.buildSlice t len parts').run P w = .ok p' w' := by
  unfold buildSliceA at e
  split at e
  · simp at e
  · rename_i el hel
    have hu : P.underlying t = some (.slice el) := by
      unfold sliceElem at hel; split at hel <;> simp_all
    split at e
    · rename_i n zs hn hz
      obtain ⟨v, n', h1, h2, h3, h4⟩ := zeroCellsA_ok (P := P) (w := w) (M := M) hz
      rw [hn] at h3; injection h3 with h3; subst h3
      by_cases hb : len * n ≤ 2 ^ 24
      · rw [decide_eq_true hb] at e; simp only [cond_true] at e
        split at e
        · rename_i cs hcs
          injection e with e; subst e
          have hz2 := zeroRow h2 h4 len (if len * n = 0 then #[] else v.cells) rfl
          obtain ⟨cs', h5, h6⟩ := fillA_ok (pC := fun i => some (i * n, n)) (fun i r hr => hr) hcs hp hz2
          refine ⟨_, rfl, M.add h.n ⟨w.heap.size, 0, cs'.size⟩, w.alloc (.cells cs' el), .slice (some ⟨w.heap.size, 0, none⟩) len len, ?_, ⟨_, len, Mp.add_same _ _ _, rfl, Nat.le_refl _, rfl⟩, ?_⟩
          · exact Stp.push R h hM rfl (OR.row' R.big (h6.mono (Mp.le_add hM)))
          · have hbig : ¬ (len * n > 2 ^ 24) := by omega
            simp only [Instr.buildSlice, Sem.run_bind, run_underlying hu, Result.andThen_ok, run_sizeOf hn, hbig, if_false]
            by_cases h0 : len * n = 0
            · simp only [h0, if_true] at h5 ⊢
              simp only [pure_bind, h5, newRow, bind_assoc, Sem.run_bind, run_newObj, Result.andThen_ok, Sem.run_pure, World.alloc]
            · simp only [h0, if_false] at h5 ⊢
              simp only [Sem.run_bind, h1, pure_bind, h5, newRow, bind_assoc, run_newObj, Result.andThen_ok, Sem.run_pure, World.alloc]
        · simp at e
      · rw [decide_eq_false hb] at e; simp at e
    · simp at e
theorem makeSliceA_ok {l c : AV} {l' c' : Value} {r : AV × AH} (e : makeSliceA P h t l c = some r) (hl : RV M l l') (hc : RV M c c') (R : Rel B w0 M X w) (hM : M h.n = none) :
    ∃ o, r.2 = h.push o ∧ ∃ M' w' p', Stp B w0 M h r.2 (ovw h r.2 X) M' w' ∧ RV M' r.1 p' ∧ (Instr.makeSlice t l' c').run P w = .ok p' w' := by
  unfold makeSliceA at e
  split at e
  · rename_i el kl ln kc cn hel
    have hu : P.underlying t = some (.slice el) := by
      unfold sliceElem at hel; split at hel <;> simp_all
    cases hl; cases hc
    split at e
    · rename_i i zs hi hz
      obtain ⟨v, n', h1, h2, h3, h4⟩ := zeroCellsA_ok (P := P) (w := w) (M := M) hz
      simp only at e
      by_cases hb : 0 ≤ IntKind.i64.wrap ln ∧ IntKind.i64.wrap ln ≤ IntKind.i64.wrap cn ∧ (i.bytes : Int) * IntKind.i64.wrap cn ≤ 2 ^ 48
      · rw [decide_eq_true hb] at e; simp only [cond_true, Option.some.injEq] at e; subst e
        obtain ⟨hb1, hb2, hb3⟩ := hb
        generalize hlw : IntKind.i64.wrap ln = lw at *
        generalize hcw : IntKind.i64.wrap cn = cw at *
        have hz2 := zeroRow h2 h4 cw.toNat (if cw.toNat * n' = 0 then #[] else v.cells) rfl
        refine ⟨_, rfl, M.add h.n ⟨w.heap.size, 0, ((Array.range (cw.toNat * n')).map ((if cw.toNat * n' = 0 then #[] else v.cells)[· % (if cw.toNat * n' = 0 then #[] else v.cells).size]!)).size⟩, w.alloc (.cells ((Array.range (cw.toNat * n')).map ((if cw.toNat * n' = 0 then #[] else v.cells)[· % (if cw.toNat * n' = 0 then #[] else v.cells).size]!)) el), .slice (some ⟨w.heap.size, 0, none⟩) lw.toNat cw.toNat, ?_, ⟨_, cw.toNat, Mp.add_same _ _ _, rfl, by omega, rfl⟩, ?_⟩
        · exact Stp.push R h hM rfl (OR.row' R.big (hz2.mono (Mp.le_add hM)))
        · have c1 : ((cw < 0 || ↑i.bytes * cw > 2 ^ 48) || lw < 0 || lw > cw) = false := by
            simp only [Bool.or_eq_false_iff, decide_eq_false_iff_not]; omega
          simp only [Instr.makeSlice, Sem.run_bind, run_underlying hu, Result.andThen_ok, asInt, asIntOf, Sem.run_pure, run_typeInfo hi, hlw, hcw]
          rw [if_neg (by rw [c1]; simp)]
          by_cases h0 : cw.toNat * n' = 0
          · simp only [Sem.run_bind, run_askRoom, run_sizeOf h3, Result.andThen_ok, h0, if_true, pure_bind, newRow, bind_assoc, run_newObj, Sem.run_pure, World.alloc]
          · simp only [Sem.run_bind, run_askRoom, run_sizeOf h3, Result.andThen_ok, h0, if_false, h1, pure_bind, newRow, bind_assoc, run_newObj, Sem.run_pure, World.alloc]
      · rw [decide_eq_false hb] at e; simp at e
    · simp at e
  · simp at e
theorem makeMapA_ok {m : Option AV} {m' : Option Value} {r : AV × AH} (e : makeMapA P h t m = some r) (hm : ∀ a, m = some a → ∃ v, m' = some v ∧ RV M a v) (hm0 : m = none → m' = none) (R : Rel B w0 M X w) (hM : M h.n = none) :
    ∃ o, r.2 = h.push o ∧ ∃ M' w' p', Stp B w0 M h r.2 (ovw h r.2 X) M' w' ∧ RV M' r.1 p' ∧ (Instr.makeMap t m').run P w = .ok p' w' := by
  have key : r = (.map h.n, h.push (.map [] 0)) ∧ (Instr.makeMap t m').run P w = .ok (.map (some w.heap.size)) (w.alloc (.map #[] 0)) := by
    unfold makeMapA at e
    split at e
    · injection e with e; subst e; rw [hm0 rfl]; exact ⟨rfl, rfl⟩
    · obtain ⟨v, rfl, hv⟩ := hm _ rfl
      cases hv
      split at e
      · rename_i hu
        injection e with e; subst e
        refine ⟨rfl, ?_⟩
        simp only [Instr.makeMap, Sem.run_bind, run_underlying hu, Result.andThen_ok, asInt, asIntOf, Sem.run_pure, run_newObj, World.alloc]
      · simp at e
    · simp at e
  obtain ⟨rfl, hr⟩ := key
  refine ⟨_, rfl, M.add h.n ⟨w.heap.size, 0, 0⟩, w.alloc (.map #[] 0), .map (some w.heap.size), ?_, ⟨_, Mp.add_same _ _ _, rfl⟩, hr⟩
  exact Stp.push R h hM rfl ⟨#[], World.alloc_heap_new w _, rfl, R.big⟩

/-! ### Maps -/
theorem mapTypes_ok {k e : TypeId} (h : mapTypes P t = some (k, e)) : P.underlying t = some (.map k e) := by
  unfold mapTypes at h; split at h
  · rename_i k' e' hu; injection h with h; injection h with h1 h2; subst h1 h2; exact hu
  · simp at h
theorem run_keyFields {d : Nat} {em : Bool} (ok : TypeId → AV → Bool) (hok : ∀ t a a', RV M a a' → ok t a = true → (Instr.checkKey em d t a').run P w = .ok () w)
    {xs : List AV} {xs' : Array Value} (hx : RVs M xs xs'.toList) : ∀ (fs : List Field), keyFieldsOk P ok fs xs = true →
      (forIn fs PUnit.unit fun f __s =>
            if f.name ≠ "_" then do
              let __do_lift ← part f.type xs' f.offset
              Instr.checkKey em d f.type __do_lift
              pure (ForInStep.yield PUnit.unit)
            else pure (ForInStep.yield PUnit.unit) : Sem PUnit).run P w = .ok PUnit.unit w := by
  intro fs
  induction fs with
  | nil => intro _; rfl
  | cons f fs ih =>
    intro h
    simp only [keyFieldsOk] at h
    by_cases hn : f.name = "_"
    · simp only [hn, bne_self_eq_false, cond_false] at h
      rw [List.forIn_cons, if_neg (by simpa using hn), pure_bind]
      exact ih h
    · have hb : (f.name != "_") = true := by simpa using hn
      simp only [hb, cond_true] at h
      split at h
      · rename_i a ha
        simp only [Bool.and_eq_true] at h
        obtain ⟨a', ra, va⟩ := run_part (P := P) (w := w) hx ha
        rw [List.forIn_cons, if_pos hn]
        simp only [bind_assoc, Sem.run_bind, ra, hok _ _ _ va h.1, Result.andThen_ok, pure_bind]
        exact ih h.2
      · simp at h
theorem run_keyArr {d : Nat} {em : Bool} (ok : TypeId → AV → Bool) (hok : ∀ t a a', RV M a a' → ok t a = true → (Instr.checkKey em d t a').run P w = .ok () w)
    {xs : List AV} {xs' : Array Value} (hx : RVs M xs xs'.toList) {e : TypeId} {n : Nat} (hn : szOf P e = some n) : ∀ (k i : Nat), keyArrOk P ok e n xs k i = true →
      (forIn (List.range' i k 1) PUnit.unit fun i __s => do
              let __do_lift ← sizeOf e
              let __do_lift ← part e xs' (i * __do_lift)
              Instr.checkKey em d e __do_lift
              pure (ForInStep.yield PUnit.unit) : Sem PUnit).run P w = .ok PUnit.unit w := by
  intro k
  induction k with
  | zero => intro i _; rfl
  | succ k ih =>
    intro i h
    simp only [keyArrOk] at h
    split at h
    · rename_i a ha
      simp only [Bool.and_eq_true] at h
      obtain ⟨a', ra, va⟩ := run_part (P := P) (w := w) hx ha
      rw [List.range'_succ, List.forIn_cons]
      simp only [bind_assoc, Sem.run_bind, run_sizeOf hn, ra, hok _ _ _ va h.1, Result.andThen_ok, pure_bind]
      exact ih _ h.2
    · simp at h
theorem keyOk_ok {em : Bool} : ∀ (d D : Nat) (t : TypeId) (a : AV) (a' : Value), d ≤ D → RV M a a' → keyOk P d t a = true → (Instr.checkKey em D t a').run P w = .ok () w := by
  intro d
  induction d with
  | zero => intro D t a a' _ _ h; simp [keyOk] at h
  | succ d ih =>
    intro D t a a' hD ha h
    obtain ⟨D, rfl⟩ : ∃ D', D = D' + 1 := ⟨D - 1, by omega⟩
    have ih' := fun t a a' => ih D t a a' (by omega)
    cases hu : P.underlying t with
    | none => simp [keyOk, hu] at h
    | some u =>
      cases u with
      | interface ms => simp [keyOk, hu] at h
      | array len e =>
        cases a <;> simp only [keyOk, hu, Bool.false_eq_true] at h
        obtain ⟨cs', rfl, hc⟩ := ha
        split at h
        · rename_i n hn
          have := run_keyArr (w := w) (em := em) (keyOk P d) ih' hc hn len 0 h
          simp only [Instr.checkKey, Sem.run_bind, run_underlying hu, Result.andThen_ok]
          rw [Std.Legacy.Range.forIn_eq_forIn_range']
          simp only [Std.Legacy.Range.size, Nat.sub_zero, Nat.add_one_sub_one, Nat.div_one]
          rw [this]; rfl
        · simp at h
      | struct fields =>
        cases a <;> simp only [keyOk, hu, Bool.false_eq_true] at h
        obtain ⟨cs', rfl, hc⟩ := ha
        have := run_keyFields (w := w) (em := em) (keyOk P d) ih' hc fields.toList h
        simp only [Instr.checkKey, Sem.run_bind, run_underlying hu, Result.andThen_ok, ← Array.forIn_toList, this, Sem.run_pure]
      | _ => simp only [Instr.checkKey, Sem.run_bind, run_underlying hu, Result.andThen_ok]; rfl

theorem REs.get : ∀ {es : List (AV × AV × Nat)} {es' : List MapEntry}, REs M es es' → ∀ {i : Nat} {k v : AV} {b : Nat}, es[i]? = some (k, v, b) → ∃ e, es'[i]? = some e ∧ RV M k e.key ∧ RV M v e.val ∧ e.born = b
  | [], _, e, i, k, v, b, h => by simp at h
  | (k0, v0, b0) :: es, _, ⟨e, rest, rfl, hk, hv, hb, hr⟩, i, k, v, b, h => by
    cases i with
    | zero => simp at h; obtain ⟨rfl, rfl, rfl⟩ := h; exact ⟨e, rfl, hk, hv, hb⟩
    | succ i => simp at h; simpa using REs.get hr h
theorem REs.length : ∀ {es : List (AV × AV × Nat)} {es' : List MapEntry}, REs M es es' → es.length = es'.length
  | [], _, e => by cases e; rfl
  | (_, _, _) :: es, _, ⟨e, rest, rfl, _, _, _, hr⟩ => by simp [REs.length hr]
theorem REs.append : ∀ {es : List (AV × AV × Nat)} {es' : List MapEntry} {k v : AV} {b : Nat} {e : MapEntry}, REs M es es' → RV M k e.key → RV M v e.val → e.born = b → REs M (es ++ [(k, v, b)]) (es' ++ [e])
  | [], _, k, v, b, e, h, hk, hv, hb => by cases h; exact ⟨e, [], rfl, hk, hv, hb, rfl⟩
  | (_, _, _) :: es, _, k, v, b, e, ⟨e0, rest, rfl, h1, h2, h3, hr⟩, hk, hv, hb => ⟨e0, _, rfl, h1, h2, h3, REs.append hr hk hv hb⟩
theorem REs.setEntry : ∀ {es : List (AV × AV × Nat)} {es' : List MapEntry}, REs M es es' → ∀ (i : Nat) {k v : AV} {k' v' : Value}, RV M k k' → RV M v v' →
    REs M (setEntry es i k v) (es'.modify i fun e => { e with key := k', val := v' })
  | [], _, h, i, k, v, k', v', hk, hv => by cases h; cases i <;> rfl
  | (k0, v0, b0) :: es, _, ⟨e, rest, rfl, h1, h2, h3, hr⟩, i, k, v, k', v', hk, hv => by
    cases i with
    | zero => exact ⟨_, rest, rfl, hk, hv, h3, hr⟩
    | succ i => exact ⟨e, _, rfl, h1, h2, h3, REs.setEntry hr i hk hv⟩

theorem sameFlat_ok {n : Nat} {a b : AV} {a' b' : Value} (h : sameFlat a b = true) (ha : RV M a a') (hb : RV M b b') : Instr.sameBits n a' b' = true := by
  unfold sameFlat at h
  split at h
  · cases ha; cases hb
    simp only [Bool.and_eq_true, beq_iff_eq, decide_eq_true_eq] at h; obtain ⟨rfl, rfl⟩ := h; cases n <;> simp [Instr.sameBits]
  · cases ha; cases hb
    cases n <;> simpa [Instr.sameBits] using h
  · cases ha; cases hb
    cases n <;> simpa [Instr.sameBits] using h
  · simp at h
theorem sameFlats_ok {n : Nat} : ∀ {as bs : List AV} {as' bs' : List Value}, sameFlats as bs = true → RVs M as as' → RVs M bs bs' → as'.length = bs'.length ∧ (as'.zip bs').all (fun (x, y) => Instr.sameBits n x y) = true
  | [], [], _, _, _, ha, hb => by cases ha; cases hb; simp
  | [], _ :: _, _, _, h, _, _ => by simp [sameFlats] at h
  | _ :: _, [], _, _, h, _, _ => by simp [sameFlats] at h
  | a :: as, b :: bs, _, _, h, ⟨v, r, rfl, hv, hr⟩, ⟨u, q, rfl, hu, hq⟩ => by
    simp only [sameFlats, Bool.and_eq_true] at h
    obtain ⟨h1, h2⟩ := sameFlats_ok (n := n) h.2 hr hq
    simp [h1, h2, sameFlat_ok (n := n) h.1 hv hu]
theorem sameKey_ok {a b : AV} {a' b' : Value} (h : sameKey a b = true) (ha : RV M a a') (hb : RV M b b') : Instr.sameBits 10000 a' b' = true := by
  unfold sameKey at h
  split at h
  · obtain ⟨xs, rfl, hx⟩ := ha
    obtain ⟨ys, rfl, hy⟩ := hb
    obtain ⟨h1, h2⟩ := sameFlats_ok (n := 9999) h hx hy
    show (xs.size == ys.size && (xs.toList.zip ys.toList).all fun (x, y) => Instr.sameBits 9999 x y) = true
    rw [h2]; simpa using h1
  · exact sameFlat_ok h ha hb

/-- What is found. -/
def Found (M : Mp) (es : List MapEntry) : Option (Nat × AV) → Option (Nat × Value) → Prop
  | none, r => r = none
  | some (i, v), r => ∃ v' e, r = some (i, v') ∧ RV M v v' ∧ es[i]? = some e ∧ e.val = v'
theorem findAsking_ok {kt : TypeId} {k : AV} {k' : Value} (hk : RV M k k') : ∀ (es : List (AV × AV × Nat)) (es' : List MapEntry) (i : Nat) (r : Option (Nat × AV)), findA P kt k es i = some r → REs M es es' →
    ∃ r', (Instr.findAsking kt k' es' i).run P w = .ok r' w ∧ (match r with | none => r' = none | some (j, v) => ∃ v' e ka b, r' = some (j, v') ∧ RV M v v' ∧ i ≤ j ∧ es'[j - i]? = some e ∧ e.val = v' ∧ es[j - i]? = some (ka, v, b) ∧ sameKey k ka = true) := by
  intro es
  induction es with
  | nil => intro es' i r h hr; simp only [findA, Option.some.injEq] at h; subst h; cases hr; exact ⟨none, rfl, rfl⟩
  | cons x es ih =>
    obtain ⟨ka, va, b⟩ := x
    intro es' i r h hr
    obtain ⟨e, rest, rfl, hka, hva, hb, hr⟩ := hr
    simp only [findA] at h
    split at h
    · rename_i he
      have h1 := eqA_ok (w := w) 20 Op.maxDepth kt k ka k' e.key true (by decide) hk hka he
      cases hs : sameKey k ka with
      | false => simp [hs] at h
      | true =>
        simp only [hs, cond_true, Option.some.injEq] at h; subst h
        exact ⟨some (i, e.val), by simp only [Instr.findAsking, Op.equal, Sem.run_bind, h1, Result.andThen_ok, if_true, Sem.run_pure], e.val, e, ka, b, rfl, hva, Nat.le_refl _, by simp, rfl, by simp, hs⟩
    · rename_i he
      have h1 := eqA_ok (w := w) 20 Op.maxDepth kt k ka k' e.key false (by decide) hk hka he
      obtain ⟨r', h2, h3⟩ := ih rest (i + 1) r h hr
      refine ⟨r', by simp only [Instr.findAsking, Op.equal, Sem.run_bind, h1, Result.andThen_ok, Bool.false_eq_true, if_false, h2], ?_⟩
      cases r with
      | none => exact h3
      | some y =>
        obtain ⟨j, v⟩ := y
        obtain ⟨v', e', ka', b', h4, h5, h6, h7, h8, h9, h10⟩ := h3
        refine ⟨v', e', ka', b', h4, h5, by omega, ?_, h8, ?_, h10⟩
        · rw [show j - i = (j - (i + 1)) + 1 by omega, List.getElem?_cons_succ]; exact h7
        · rw [show j - i = (j - (i + 1)) + 1 by omega, List.getElem?_cons_succ]; exact h9
    · simp at h
theorem RV.of_int {x : AV} {k : IntKind} {a : Int} (h : RV M x (.int k a)) : x = .int k a ∨ x = .other := by
  cases x <;> first | (right; rfl) | (left; simp only [RV, Value.int.injEq] at h; obtain ⟨rfl, rfl⟩ := h; rfl) | (exfalso; simp [RV] at h; done)
theorem RV.of_str {x : AV} {a : ByteArray} (h : RV M x (.string a)) : x = .str a ∨ x = .other := by
  cases x <;> first | (right; rfl) | (left; simp only [RV, Value.string.injEq] at h; subst h; rfl) | (exfalso; simp [RV] at h; done)
theorem RV.of_bool {x : AV} {a : Bool} (h : RV M x (.bool a)) : x = .bool a ∨ x = .other := by
  cases x <;> first | (right; rfl) | (left; simp only [RV, Value.bool.injEq] at h; subst h; rfl) | (exfalso; simp [RV] at h; done)
theorem eqA_otherl {d : Nat} {t : TypeId} {y : AV} : eqA P (d + 1) t .other y = none := by cases y <;> rfl
theorem eqA_otherr {d : Nat} {t : TypeId} {x : AV} : eqA P (d + 1) t x .other = none := by cases x <;> rfl
theorem eqA_int {d : Nat} {t : TypeId} {k k' : IntKind} {a b : Int} : eqA P (d + 1) t (.int k a) (.int k' b) = match P.underlying t with | some (.int _) => bif decide (k = k') then some (a == b) else none | _ => none := rfl
theorem eqA_str {d : Nat} {t : TypeId} {a b : ByteArray} : eqA P (d + 1) t (.str a) (.str b) = match P.underlying t with | some .string => some (a == b) | _ => none := rfl
theorem eqA_bool {d : Nat} {t : TypeId} {a b : Bool} : eqA P (d + 1) t (.bool a) (.bool b) = match P.underlying t with | some .bool => some (a == b) | _ => none := rfl
/-- The look that needs no run says the same. -/
theorem findNow_ok {kt : TypeId} {d : TypeDesc} (hu : P.underlying kt = some d) {k : AV} {k' : Value} (hk : RV M k k') : ∀ (es : List (AV × AV × Nat)) (es' : List MapEntry) (i : Nat) (r : Option (Nat × AV)) (q : Option (Nat × Value)),
    findA P kt k es i = some r → REs M es es' → Instr.findNow d k' es' i = some q → (Instr.findAsking kt k' es' i).run P w = .ok q w := by
  intro es
  induction es with
  | nil => intro es' i r q h hr hq; cases hr; simp only [Instr.findNow, Option.some.injEq] at hq; subst hq; rfl
  | cons x es ih =>
    obtain ⟨ka, va, b⟩ := x
    intro es' i r q h hr hq
    obtain ⟨e, rest, rfl, hka, hva, hb, hr⟩ := hr
    have hsame : ∀ c, Instr.sameNow d k' e.key = some c → ∀ c', eqA P 20 kt k ka = some c' → c = c' := by
      intro c hc c' hc'
      generalize hkey : e.key = key at hc hka
      have nk : k ≠ .other := fun e => by subst e; simp [eqA_otherl] at hc'
      have nka : ka ≠ .other := fun e => by subst e; simp [eqA_otherr] at hc'
      unfold Instr.sameNow at hc
      split at hc
      · rcases hk.of_int with h1 | h1
        · rcases hka.of_int with h2 | h2
          · subst h1 h2
            rw [eqA_int] at hc'
            simp only [hu] at hc'
            split at hc
            · rename_i hkk
              rw [decide_eq_true hkk] at hc'
              simp only [cond_true, Option.some.injEq] at hc' hc
              rw [← hc, ← hc']
            · simp at hc
          · exact absurd h2 nka
        · exact absurd h1 nk
      · rcases hk.of_str with h1 | h1
        · rcases hka.of_str with h2 | h2
          · subst h1 h2
            rw [eqA_str] at hc'
            simp only [hu, Option.some.injEq] at hc' hc
            rw [← hc, ← hc']
          · exact absurd h2 nka
        · exact absurd h1 nk
      · rcases hk.of_bool with h1 | h1
        · rcases hka.of_bool with h2 | h2
          · subst h1 h2
            rw [eqA_bool] at hc'
            simp only [hu, Option.some.injEq] at hc' hc
            rw [← hc, ← hc']
          · exact absurd h2 nka
        · exact absurd h1 nk
      · simp at hc
    simp only [findA] at h
    simp only [Instr.findNow] at hq
    cases hn : Instr.sameNow d k' e.key with
    | none => rw [hn] at hq; simp at hq
    | some c =>
      rw [hn] at hq
      cases he : eqA P 20 kt k ka with
      | none => rw [he] at h; simp at h
      | some c' =>
        have hcc := hsame c hn c' he
        subst hcc
        have h1 := eqA_ok (w := w) 20 Op.maxDepth kt k ka k' e.key c (by decide) hk hka he
        rw [he] at h
        cases c with
        | true =>
          simp only [Option.some.injEq] at hq; subst hq
          simp only [Instr.findAsking, Op.equal, Sem.run_bind, h1, Result.andThen_ok, if_true, Sem.run_pure]
        | false =>
          simp only at h hq
          have := ih rest (i + 1) r q h hr hq
          simp only [Instr.findAsking, Op.equal, Sem.run_bind, h1, Result.andThen_ok, Bool.false_eq_true, if_false, this]
theorem findKey_ok {kt : TypeId} {d : TypeDesc} (hu : P.underlying kt = some d) {k : AV} {k' : Value} (hk : RV M k k') {es : List (AV × AV × Nat)} {es' : List MapEntry} {r : Option (Nat × AV)} (h : findA P kt k es 0 = some r) (hr : REs M es es') :
    ∃ r', (Instr.findKey kt k' es').run P w = .ok r' w ∧ (match r with | none => r' = none | some (j, v) => ∃ v' e ka b, r' = some (j, v') ∧ RV M v v' ∧ es'[j]? = some e ∧ e.val = v' ∧ es[j]? = some (ka, v, b) ∧ sameKey k ka = true) := by
  obtain ⟨r', h1, h2⟩ := findAsking_ok (P := P) (w := w) hk es es' 0 r h hr
  have h3 : (Instr.findKey kt k' es').run P w = .ok r' w := by
    simp only [Instr.findKey, Sem.run_bind, run_underlying hu, Result.andThen_ok]
    cases hn : Instr.findNow d k' es' 0 with
    | none => exact h1
    | some q =>
      have := findNow_ok (w := w) hu hk es es' 0 r q h hr hn
      rw [h1] at this; injection this with this; subst this; rfl
  refine ⟨r', h3, ?_⟩
  cases r with
  | none => exact h2
  | some y =>
    obtain ⟨j, v⟩ := y
    obtain ⟨v', e, ka, b, h4, h5, _, h7, h8, h9, h10⟩ := h2
    exact ⟨v', e, ka, b, h4, h5, h7, h8, h9, h10⟩
end
end Go.Ai
