/- What an operation does in the model, where the abstract machine does it: map operations, the built-in functions. -/
import Derived.Test.YthllmdjcogjkoaaDoorAi8
namespace Go.Ai
set_option linter.unusedSimpArgs false
set_option linter.unusedVariables false
section
variable {P : Program} {B : Nat} {w0 w : World} {M : Mp} {X : Nat → Option AO} {h h' : AH} {t : TypeId} {z x : AV} {x' : Value}

theorem bytes_eq {a b : ByteArray} (e : (a == b) = true) : a = b := by
  cases a; cases b
  exact congrArg ByteArray.mk (eq_of_beq e)
theorem bytes_beq (a : ByteArray) : (a == a) = true := by
  cases a
  exact beq_self_eq_true (α := Array UInt8) _
theorem sameFlat_symm {a b : AV} (e : sameFlat a b = true) : sameFlat b a = true := by
  unfold sameFlat at e
  split at e
  · simp only [Bool.and_eq_true, beq_iff_eq, decide_eq_true_eq] at e; obtain ⟨rfl, rfl⟩ := e; simp [sameFlat]
  · obtain rfl := bytes_eq e; exact bytes_beq _
  · simp only [beq_iff_eq] at e; subst e; simp [sameFlat]
  · simp at e
theorem sameFlats_symm : ∀ {a b : List AV}, sameFlats a b = true → sameFlats b a = true
  | [], [], _ => rfl
  | [], _ :: _, e => by simp [sameFlats] at e
  | _ :: _, [], e => by simp [sameFlats] at e
  | a :: as, b :: bs, e => by
    simp only [sameFlats, Bool.and_eq_true] at e ⊢
    exact ⟨sameFlat_symm e.1, sameFlats_symm e.2⟩
theorem sameKey_symm {a b : AV} (e : sameKey a b = true) : sameKey b a = true := by
  unfold sameKey at e
  split at e
  · exact sameFlats_symm e
  · rename_i h1
    have h2 := sameFlat_symm e
    unfold sameKey
    split
    · exact absurd rfl (h1 _ _ rfl)
    · exact h2
theorem mapAt_ok {m : AV} {m' : Value} {es : List (AV × AV × Nat)} {c : Nat} (e : mapAt h m = some (es, c)) (hm : RV M m m') (R : Rel B w0 M X w) (agree : ∀ id, m = .map id → X id = h.get id) :
    (m' = .map none ∧ es = []) ∨ ∃ (p : Pt) (es' : Array MapEntry), m' = .map (some p.blk) ∧ w.heap[p.blk]? = some (.map es' c) ∧ REs M es es'.toList := by
  unfold mapAt at e
  split at e
  · injection e with e; injection e with e1 e2; cases hm; exact .inl ⟨rfl, e1.symm⟩
  · rename_i id
    obtain ⟨p, hp, rfl⟩ := hm
    split at e
    · rename_i es0 c0 hg
      injection e with e; injection e with e1 e2; subst e1 e2
      obtain ⟨o, hx, ho⟩ := R.obj id p hp
      rw [agree id rfl, hg] at hx; injection hx with hx; subst hx
      obtain ⟨es', h1, h2, h3⟩ := ho
      exact .inr ⟨p, es', rfl, h1, h2⟩
    · simp at e
  · simp at e
theorem lookupA_ok {m k v : AV} {m' k' : Value} {ok : Bool} (e : lookupA P h t m k ok = some v) (hm : RV M m m') (hk : RV M k k') (R : Rel B w0 M X w) (agree : ∀ id, m = .map id → X id = h.get id) :
    ∃ v', (Instr.lookup t m' k' ok).run P w = .ok v' w ∧ RV M v v' := by
  unfold lookupA at e
  split at e
  · rename_i kt el es c hmt hma
    have hu := mapTypes_ok hmt
    cases hko : (k.key && keyOk P 20 kt k) with
    | false => simp [hko] at e
    | true =>
      simp only [hko, cond_true] at e
      simp only [Bool.and_eq_true] at hko
      have hkd : ∃ d, P.underlying kt = some d := by
        cases hd : P.underlying kt with
        | none => have := hko.2; simp [keyOk, hd] at this
        | some d => exact ⟨d, rfl⟩
      obtain ⟨d, hd⟩ := hkd
      have hes : ∃ es' : Array MapEntry, REs M es es'.toList ∧ ((match m' with
          | .map none => pure #[]
          | .map (some r) => do
            let .map es _ ← getObj r | stuck "Lookup: map expected"
            pure es
          | _ => stuck "Lookup: map expected" : Sem (Array MapEntry)).run P w = .ok es' w) := by
        rcases mapAt_ok hma hm R agree with ⟨rfl, rfl⟩ | ⟨p, es', rfl, h1, h2⟩
        · exact ⟨#[], rfl, rfl⟩
        · exact ⟨es', h2, by simp [getObj, Sem.run, h1]⟩
      obtain ⟨es', hr, hrun⟩ := hes
      have hck := keyOk_ok (P := P) (w := w) (em := es'.isEmpty) 20 10000 kt k k' (by decide) hk hko.2
      split at e
      · rename_i i v0 hf
        injection e with e; subst e
        obtain ⟨r', h1, v', en, ka, b, rfl, h3, h4, h5, h6, h7⟩ := findKey_ok (w := w) hd hk hf hr
        refine ⟨if ok = true then .tuple #[v', .bool true] else v', ?_, ?_⟩
        · unfold Instr.lookup
          simp only [Sem.run_bind, run_underlying hu, Result.andThen_ok]
          rcases mapAt_ok hma hm R agree with ⟨rfl, rfl⟩ | ⟨p, es2, rfl, h1', h2'⟩
          · simp at h6
          · have : (getObj p.blk).run P w = .ok (.map es2 c) w := by simp [getObj, Sem.run, h1']
            have he2 : es2 = es' := by
              simp only [Sem.run_bind, this, Result.andThen_ok, Sem.run_pure] at hrun
              injection hrun
            subst he2
            simp only [this, Result.andThen_ok, Sem.run_bind, hck, h1, Sem.run_pure]
        · cases ok
          · exact h3
          · exact ⟨_, rfl, .cons h3 (.cons rfl .nil)⟩
      · rename_i zz hf hz
        injection e with e; subst e
        obtain ⟨r', h1, rfl⟩ := findKey_ok (w := w) hd hk hf hr
        obtain ⟨zv, h2, h3⟩ := run_zeroValue (P := P) (w := w) (M := M) hz
        refine ⟨if ok = true then .tuple #[zv, .bool false] else zv, ?_, ?_⟩
        · unfold Instr.lookup
          simp only [Sem.run_bind, run_underlying hu, Result.andThen_ok]
          rcases mapAt_ok hma hm R agree with ⟨rfl, rfl⟩ | ⟨p, es2, rfl, h1', h2'⟩
          · have he2 : es' = #[] := by simp only [Sem.run_pure] at hrun; injection hrun with hrun; exact hrun.symm
            subst he2
            simp only [Sem.run_pure, Result.andThen_ok, Sem.run_bind, hck, h1, h2]
          · have : (getObj p.blk).run P w = .ok (.map es2 c) w := by simp [getObj, Sem.run, h1']
            have he2 : es2 = es' := by
              simp only [Sem.run_bind, this, Result.andThen_ok, Sem.run_pure] at hrun
              injection hrun
            subst he2
            simp only [this, Result.andThen_ok, Sem.run_bind, hck, h1, Sem.run_pure, h2]
        · cases ok
          · exact h3
          · exact ⟨_, rfl, .cons h3 (.cons rfl .nil)⟩
      · simp at e
  · simp at e

/-- A map's object is set. -/
theorem map_put {id : Nat} {p : Pt} {es es2 : List (AV × AV × Nat)} {c c2 : Nat} {es' es2' : Array MapEntry} (R : Rel B w0 M X w) (wf : h.WF) (agree : ∀ id, id < h.n → X id = h.get id)
    (hp : M id = some p) (hg : h.get id = some (.map es c)) (hw : w.heap[p.blk]? = some (.map es' c)) (hB : B ≤ p.blk) (hr : REs M es2 es2'.toList) :
    (h.set id (.map es2 c2)).WF ∧ Ext h (h.set id (.map es2 c2)) ∧ Rel B w0 M (ovr (h.set id (.map es2 c2)) X) (w.putObj p.blk (.map es2' c2)) ∧ (setObj p.blk (.map es2' c2)).run P w = .ok () (w.putObj p.blk (.map es2' c2)) := by
  have hlt := wf.lt hg
  refine ⟨wf.set hlt _, .set _ _ _, ?_, by simp [setObj, Sem.run, hw, World.putObj]⟩
  refine (R.put hp (o0 := .map es c) (o := .map es2 c2) (by rw [agree id hlt]; exact hg) (by simp) (by simp) hB ?_).congr fun j q hq => ?_
  · exact ⟨es2', World.putObj_heap_same (Array.getElem?_eq_some_iff.1 hw).1, hr, hB⟩
  · unfold ovr
    rw [AH.set_n, AH.get_set]
    by_cases ej : j = id
    · subst ej; rw [if_pos hlt, if_pos rfl, if_pos rfl]
    · rw [if_neg ej, if_neg ej]
      split
      · rename_i e; exact (agree j e).symm
      · rfl
theorem mapUpdateA_ok {m k v : AV} {m' k' v' : Value} (e : mapUpdateA P h t m k v = some h') (hm : RV M m m') (hk : RV M k k') (hv : RV M v v') (R : Rel B w0 M X w) (wf : h.WF) (agree : ∀ id, id < h.n → X id = h.get id) :
    h'.WF ∧ Ext h h' ∧ h'.n = h.n ∧ ∃ w', Rel B w0 M (ovr h' X) w' ∧ (Instr.mapUpdate t m' k' v').run P w = .ok () w' := by
  unfold mapUpdateA at e
  split at e
  · rename_i kt el id hmt
    have hu := mapTypes_ok hmt
    obtain ⟨p, hp, rfl⟩ := hm
    split at e
    · rename_i es c hg
      cases hko : (k.key && keyOk P 20 kt k) with
      | false => simp [hko] at e
      | true =>
        simp only [hko, cond_true] at e
        simp only [Bool.and_eq_true] at hko
        have hkd : ∃ d, P.underlying kt = some d := by
          cases hd : P.underlying kt with
          | none => have := hko.2; simp [keyOk, hd] at this
          | some d => exact ⟨d, rfl⟩
        obtain ⟨d, hd⟩ := hkd
        have hck := keyOk_ok (P := P) (w := w) (em := false) 20 10000 kt k k' (by decide) hk hko.2
        obtain ⟨o, hx, ho⟩ := R.obj id p hp
        have hlt := wf.lt hg
        rw [agree id hlt, hg] at hx; injection hx with hx; subst hx
        obtain ⟨es', h1, h2, hB⟩ := ho
        have hget : (getObj p.blk).run P w = .ok (.map es' c) w := by simp [getObj, Sem.run, h1]
        split at e
        · rename_i i v0 hf
          injection e with e; subst e
          obtain ⟨r', h3, v2, en, ka, b, rfl, h4, h5, h6, h7, h8⟩ := findKey_ok (w := w) hd hk hf h2
          have hes : es'[i]? = some en := by simpa using h5
          have hkeep : (Instr.keyThatStays (((es'[i]?).map (·.key)).getD k') k').run P w = .ok k' w := by
            rw [hes]
            simp only [Option.map_some, Option.getD_some]
            obtain ⟨e2, h9, h10, h11, h12⟩ := h2.get h7
            rw [h5] at h9; injection h9 with h9; subst h9
            have hsb : Instr.sameBits 10000 en.key k' = true := by
              exact sameKey_ok (sameKey_symm h8) h10 hk
            simp only [Instr.keyThatStays, hsb, if_true, Sem.run_pure]
          have hmod : REs M (setEntry es i k v) ((es'.modify i fun e => { e with key := k', val := v' }).toList) := by
            rw [Array.toList_modify]; exact h2.setEntry i hk hv
          obtain ⟨g1, g2, g3, g4⟩ := map_put (P := P) (c2 := c) R wf agree hp hg h1 hB hmod
          refine ⟨g1, g2, rfl, _, g3, ?_⟩
          simp only [Instr.mapUpdate, Sem.run_bind, run_underlying hu, Result.andThen_ok, hget, hck, h3, hkeep, g4]
        · rename_i hf
          injection e with e; subst e
          obtain ⟨r', h3, rfl⟩ := findKey_ok (w := w) hd hk hf h2
          have hmod : REs M (es ++ [(k, v, c)]) ((es'.push { key := k', val := v', born := c }).toList) := by
            rw [Array.toList_push]; exact h2.append hk hv rfl
          obtain ⟨g1, g2, g3, g4⟩ := map_put (P := P) (c2 := c + 1) R wf agree hp hg h1 hB hmod
          refine ⟨g1, g2, rfl, _, g3, ?_⟩
          simp only [Instr.mapUpdate, Sem.run_bind, run_underlying hu, Result.andThen_ok, hget, hck, h3, g4]
        · simp at e
    · simp at e
  · simp at e

/-! ### The built-in functions -/
theorem run_len {ats : Array TypeId} {args : Array Value} {u : TypeId} {d : TypeDesc} (ht : ats[0]? = some t) (ha : args[0]? = some x') (hu : P.underlying t = some d) :
    (Builtin.len_ ats u args).run P w = ((match (generalizing := false) d, x' with
      | .string, .string s => pure (goInt s.size)
      | .array n _, _ => pure (goInt n)
      | .pointer arr, _ => do
        let .array n _ ← underlying arr | stuck "len: pointer to array expected"
        pure (goInt n)
      | .slice _, .slice _ n _ => pure (goInt n)
      | .map _ _, .map none => pure (goInt 0)
      | .chan _ _, .chan none => pure (goInt 0)
      | .map _ _, .map (some r) => do
        let .map entries _ ← getObj r | stuck "len: map expected"
        pure (goInt entries.size)
      | .chan _ _, .chan (some r) => do
        let .chan _ buf _ _ _ timer ← getObj r | stuck "len: channel expected"
        pure (goInt (if timer then 0 else buf.size))
      | _, _ => stuck "len: string, array, pointer to array, slice, map or channel expected" : Sem Value).run P w) := by
  unfold Builtin.len_
  simp only [ht, ha, Sem.run_bind, run_underlying hu, Result.andThen_ok]
  rfl
theorem lenA_ok {n : Nat} {ats : Array TypeId} {args : Array Value} {u : TypeId} (e : lenA P h t x = some n) (hx : RV M x x') (ht : ats[0]? = some t) (ha : args[0]? = some x') (R : Rel B w0 M X w) (agree : ∀ id, x = .map id → X id = h.get id) :
    (Builtin.len_ ats u args).run P w = .ok (.int .i64 n) w := by
  have start := fun (d : TypeDesc) (hu : P.underlying t = some d) => run_len (w := w) (u := u) ht ha hu
  unfold lenA at e
  split at e
  · rename_i s hu; cases hx; injection e with e; subst e; rw [start _ hu]; rfl
  · rename_i k el cs hu; obtain ⟨cs', rfl, _⟩ := hx; injection e with e; subst e; rw [start _ hu]; rfl
  · rename_i a id off hu
    obtain ⟨p, hp, rfl⟩ := hx
    split at e
    · rename_i k el hu2
      injection e with e; subst e; rw [start _ hu]
      simp only [Sem.run_bind, run_underlying hu2, Result.andThen_ok, Sem.run_pure, goInt]
    · simp at e
  · rename_i el hu; cases hx; injection e with e; subst e; rw [start _ hu]; rfl
  · rename_i el id off zz hu; obtain ⟨p, a, c, hp, rfl, _⟩ := hx; injection e with e; subst e; rw [start _ hu]; rfl
  · rename_i el id off k cap hu; obtain ⟨p, c, hp, rfl, _⟩ := hx; injection e with e; subst e; rw [start _ hu]; rfl
  · rename_i el k cs hu; obtain ⟨a, c, rfl, _⟩ := hx; injection e with e; subst e; rw [start _ hu]; rfl
  · rename_i k el hu; cases hx; injection e with e; subst e; rw [start _ hu]; rfl
  · rename_i k el id hu
    obtain ⟨p, hp, rfl⟩ := hx
    split at e
    · rename_i es c hg
      injection e with e; subst e
      obtain ⟨o, hxx, ho⟩ := R.obj id p hp
      rw [agree id rfl, hg] at hxx; injection hxx with hxx; subst hxx
      obtain ⟨es', h1, h2, hB⟩ := ho
      rw [start _ hu]
      simp only [Sem.run_bind, getObj, Sem.run, h1, Result.andThen_ok, Sem.run_pure, goInt]
      rw [h2.length]; simp
    · simp at e
  · simp at e
theorem capA_ok {n : Nat} {ats : Array TypeId} {args : Array Value} {u : TypeId} (e : capA P t x = some n) (hx : RV M x x') (ht : ats[0]? = some t) (ha : args[0]? = some x') :
    (Builtin.cap_ ats u args).run P w = .ok (.int .i64 n) w := by
  unfold capA at e
  split at e
  · rename_i el hu; cases hx; injection e with e; subst e
    simp only [Builtin.cap_, ht, ha, Sem.run_bind, run_underlying hu, Result.andThen_ok, Sem.run_pure, goInt]
  · rename_i el id off k c hu; obtain ⟨p, c', hp, rfl, _, rfl⟩ := hx; injection e with e; subst e
    simp only [Builtin.cap_, ht, ha, Sem.run_bind, run_underlying hu, Result.andThen_ok, Sem.run_pure, goInt]
  · simp at e

theorem bytesOfA_ok (s : ByteArray) (n : Nat) : RVs M (bytesOfA s n) ((s.extract 0 n).data.map fun b => Value.int .u8 b.toNat).toList := by
  have : (s.extract 0 n).data.toList = s.data.toList.take n := by
    rw [ByteArray.data_extract]; simp [Array.toList_extract, List.extract_eq_take_drop]
  rw [Array.toList_map, this]
  unfold bytesOfA
  generalize s.data.toList.take n = l
  induction l with
  | nil => rfl
  | cons b l ih => exact .cons rfl ih
theorem firstA_ok {zz n : Nat} {cs : List AV} (e : firstA h zz n x = some cs) (hx : RV M x x') (R : Rel B w0 M X w) (agree : ∀ id, id < h.n → X id = h.get id) (wf : h.WF) :
    ∃ cs', (Builtin.firstCells zz n x').run P w = .ok cs' w ∧ RVs M cs cs'.toList := by
  unfold firstA at e
  split at e
  · cases hx
    by_cases hn : n = 0
    · rw [decide_eq_true hn] at e; simp only [cond_true, Option.some.injEq] at e; subst e; exact ⟨#[], rfl, rfl⟩
    · rw [decide_eq_false hn] at e; simp at e
  · obtain ⟨p, a, c, hp, rfl, _⟩ := hx
    by_cases hn : n = 0
    · rw [decide_eq_true hn] at e; simp only [cond_true, Option.some.injEq] at e; subst e; subst hn
      exact ⟨#[], by simp [Builtin.firstCells, loadCells, loadCellsFrom], rfl⟩
    · rw [decide_eq_false hn] at e; simp at e
  · rename_i id off len cap
    obtain ⟨p, c, hp, rfl, _⟩ := hx
    by_cases hn : n ≤ len
    · rw [decide_eq_true hn] at e; simp only [cond_true] at e
      split at e
      · rename_i cc hc
        have key : ∃ arr el fz, w.heap[p.blk]? = some (.cells arr el fz) ∧ p.base + cc.length ≤ arr.size ∧ RVs M cc ((arr.toList.drop p.base).take cc.length) := by
          unfold cellsAt at hc
          split at hc
          · rename_i cs0 ro hg
            injection hc with hc; subst hc
            obtain ⟨o, hxx, ho⟩ := R.obj id p hp
            rw [agree id (wf.lt hg), hg] at hxx; injection hxx with hxx; subst hxx
            obtain ⟨arr, el, fz, h1, h2, h3, h4, h5⟩ := ho
            exact ⟨arr, el, fz, h1, h3, h4⟩
          · rename_i e0 cs0 hg
            injection hc with hc; subst hc
            obtain ⟨o, hxx, ho⟩ := R.obj id p hp
            rw [agree id (wf.lt hg), hg] at hxx; injection hxx with hxx; subst hxx
            obtain ⟨arr, h1, h2, h3, h4, h5⟩ := ho
            exact ⟨arr, _, _, h1, h3, h4⟩
          · rename_i e0 cs0 hg
            injection hc with hc; subst hc
            obtain ⟨o, hxx, ho⟩ := R.obj id p hp
            rw [agree id (wf.lt hg), hg] at hxx; injection hxx with hxx; subst hxx
            obtain ⟨h1, h2, arr, h3, h4, h5⟩ := ho
            have hl := h4.length
            exact ⟨arr, _, _, h3, by rw [h1]; simpa using Nat.le_of_eq hl, by rw [h1, List.drop_zero, List.take_of_length_le (by omega)]; exact h4⟩
          · cases hc
        obtain ⟨arr, el, fz, h1, h3, h4⟩ := key
        · unfold cut at e
          by_cases hb : off + n * zz ≤ cc.length
          · rw [decide_eq_true hb] at e; simp only [cond_true, Option.some.injEq] at e; subst e
            refine ⟨_, run_loadCells (P := P) h1 (o := p.base + off) (n := n * zz) (by omega), ?_⟩
            have := (h4.drop off).take (n * zz)
            simp only [List.drop_take, List.take_take, List.drop_drop] at this
            rw [Nat.min_eq_left (by omega)] at this
            exact this
          · rw [decide_eq_false hb] at e; simp at e
      · simp at e
    · rw [decide_eq_false hn] at e; simp at e
  · cases hx; injection e with e; subst e; exact ⟨_, rfl, bytesOfA_ok _ _⟩
  · rename_i m cs0
    obtain ⟨a, c, rfl, hmc, him⟩ := hx
    by_cases hn : n ≤ m ∧ cs0.length = m * zz
    · rw [decide_eq_true hn] at e; simp only [cond_true, Option.some.injEq] at e; subst e
      have hle : n * zz ≤ cs0.length := by rw [hn.2]; exact Nat.mul_le_mul_right _ hn.1
      rcases him with rfl | ⟨b, o, arr, rfl, him, hsz, hrv⟩
      · have hn0 : n = 0 := by omega
        subst hn0
        refine ⟨#[], ?_, by simp [RVs]⟩
        cases a <;> simp [Builtin.firstCells, loadCells, loadCellsFrom]
      · obtain ⟨⟨el, fz, h1⟩, _⟩ := R.im b arr him
        refine ⟨_, run_loadCells (P := P) h1 (o := o) (n := n * zz) (by omega), ?_⟩
        have := hrv.take (n * zz)
        simp only [List.take_take] at this
        rw [Nat.min_eq_left (by omega)] at this
        exact this.mono M.pure_le
    · rw [decide_eq_false hn] at e; simp at e
  · simp at e
theorem lenOfA_ok {n : Nat} (e : lenOfA x = some n) (hx : RV M x x') : (Builtin.lenOf x').run P w = .ok n w := by
  unfold lenOfA at e
  split at e <;> (try (simp at e; done)) <;> injection e with e <;> subst e
  · cases hx; rfl
  · obtain ⟨p, a, c, hp, rfl, _⟩ := hx; rfl
  · obtain ⟨p, c, hp, rfl, _⟩ := hx; rfl
  · cases hx; rfl
  · obtain ⟨a, c, rfl, _⟩ := hx; rfl
theorem nextcap_le {need old : Nat} (h : old < need) : Builtin.nextslicecap need old ≤ 2 * need + 768 := by
  unfold Builtin.nextslicecap
  split
  · omega
  · split
    · omega
    · simp only [Builtin.growBy]
      repeat' split
      all_goals omega
end
end Go.Ai
