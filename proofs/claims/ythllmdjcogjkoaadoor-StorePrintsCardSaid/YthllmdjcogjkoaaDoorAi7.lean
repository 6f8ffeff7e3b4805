/- Memory in the model: cells read, cells written, rows made. -/
import Derived.Test.YthllmdjcogjkoaaDoorAi6
namespace Go.Ai
set_option linter.unusedSimpArgs false
set_option linter.unusedVariables false
section cells
variable {P : Program} {w : World} {b : Nat} {arr : Array Value} {e : TypeId} {fz : Nat × Nat}

theorem cell_at (h : w.heap[b]? = some (.cells arr e fz)) (o : Nat) : w.cell? ⟨b, o, none⟩ = arr[o]? := by simp [World.cell?, h]
theorem frozen_at (h : w.heap[b]? = some (.cells arr e (0, 0))) (o : Nat) : w.frozen? ⟨b, o, none⟩ = false := by simp [World.frozen?, h]
theorem shape_at (h : w.heap[b]? = some (.cells arr e fz)) : w.shape? b = some (e, arr.size) := by simp [World.shape?, h]
theorem run_load_at (h : w.heap[b]? = some (.cells arr e fz)) {o : Nat} {v : Value} (hv : arr[o]? = some v) : (load ⟨b, o, none⟩).run P w = .ok v w := by
  rw [run_load, cell_at h, hv]
theorem run_loadCellsFrom (h : w.heap[b]? = some (.cells arr e fz)) (o : Nat) : ∀ (n i : Nat) (acc : Array Value), o + i + n ≤ arr.size →
    (loadCellsFrom ⟨b, o, none⟩ i n acc).run P w = .ok (acc ++ ((arr.toList.drop (o + i)).take n).toArray) w := by
  intro n
  induction n with
  | zero => intro i acc _; simp [loadCellsFrom]
  | succ n ih =>
    intro i acc hb
    have hi : o + i < arr.size := by omega
    have hv : arr[o + i]? = some arr[o + i] := Array.getElem?_eq_getElem hi
    simp only [loadCellsFrom, Sem.run_bind, addr_add, run_load_at h hv, Result.andThen_ok]
    rw [ih (i + 1) _ (by omega)]
    have hd : (arr.toList.drop (o + i)).take (n + 1) = arr[o + i] :: (arr.toList.drop (o + (i + 1))).take n := by
      rw [List.drop_eq_getElem_cons (by simpa using hi), List.take_succ_cons, Nat.add_assoc]
      simp
    rw [hd]
    congr 1
    apply Array.ext'
    simp
theorem run_loadCells (h : w.heap[b]? = some (.cells arr e fz)) {o n : Nat} (hb : o + n ≤ arr.size) :
    (loadCells ⟨b, o, none⟩ n).run P w = .ok ((arr.toList.drop o).take n).toArray w := by
  rw [loadCells, run_loadCellsFrom h o n 0 #[] (by omega)]
  simp

theorem putObj_same {o : Obj} (h : w.heap[b]? = some o) : w.putObj b o = w := by
  have : w.heap.setIfInBounds b o = w.heap := by
    apply Array.ext
    · simp
    · intro i h1 h2
      have hb := (Array.getElem?_eq_some_iff.1 h)
      by_cases hi : b = i
      · subst hi; rw [Array.getElem_setIfInBounds_self]; exact hb.2.symm
      · rw [Array.getElem_setIfInBounds_ne _ hi]
  simp [World.putObj, this]
theorem putObj_putObj (o o' : Obj) : (w.putObj b o).putObj b o' = w.putObj b o' := by
  simp [World.putObj]
theorem setCell_put (h : w.heap[b]? = some (.cells arr e fz)) (o : Nat) (v : Value) : w.setCell ⟨b, o, none⟩ v = w.putObj b (.cells (arr.setIfInBounds o v) e fz) := by
  have : (w.heap.modify b fun
      | .cells c elem frozen => .cells (if (⟨b, o, none⟩ : Addr).spot.isSome then c else c.setIfInBounds (⟨b, o, none⟩ : Addr).off v) elem frozen
      | o => o) = w.heap.setIfInBounds b (.cells (arr.setIfInBounds o v) e fz) := by
    apply Array.ext
    · simp
    · intro i h1 h2
      have hb := (Array.getElem?_eq_some_iff.1 h)
      rw [Array.getElem_modify]
      by_cases hi : b = i
      · subst hi
        rw [if_pos rfl, Array.getElem_setIfInBounds_self, hb.2]
        rfl
      · rw [if_neg hi, Array.getElem_setIfInBounds_ne _ hi]
  simp only [World.setCell, World.putObj]
  exact congrArg (fun x => { w with heap := x }) this

def spliceV (cs : List Value) (off : Nat) (ns : List Value) : List Value := cs.take off ++ (ns ++ cs.drop (off + ns.length))
theorem splice_ok {M : Mp} {cs ns : List AV} {cs' ns' : List Value} (h : RVs M cs cs') (k : RVs M ns ns') (off : Nat) : RVs M (splice cs off ns) (spliceV cs' off ns') := by
  unfold splice spliceV
  rw [← k.length]
  exact (h.take off).append (k.append (h.drop _))
theorem spliceV_length {cs ns : List Value} {off : Nat} (h : off + ns.length ≤ cs.length) : (spliceV cs off ns).length = cs.length := by
  simp [spliceV]; omega
theorem spliceV_get {cs ns : List Value} {off : Nat} (h : off + ns.length ≤ cs.length) (j : Nat) : (spliceV cs off ns)[j]? = if off ≤ j ∧ j < off + ns.length then ns[j - off]? else cs[j]? := by
  unfold spliceV
  simp only [List.getElem?_append, List.length_take, List.getElem?_take, List.getElem?_drop]
  rw [Nat.min_eq_left (by omega)]
  by_cases h1 : j < off
  · rw [if_pos h1, if_pos h1, if_neg (by omega)]
  · rw [if_neg h1]
    by_cases h2 : j - off < ns.length
    · rw [if_pos h2, if_pos (by omega)]
    · rw [if_neg h2, if_neg (by omega)]; congr 1; omega
theorem splice_length {cs ns : List AV} {off : Nat} (h : off + ns.length ≤ cs.length) : (splice cs off ns).length = cs.length := by
  simp [splice]; omega

theorem run_storeCells (vs : List Value) : ∀ {w : World} {arr : Array Value} (_ : w.heap[b]? = some (.cells arr e (0, 0))) (o i : Nat), o + i + vs.length ≤ arr.size → (∀ v ∈ vs, v.oneCell' = true) →
    (storeCells ⟨b, o, none⟩ vs i).run P w = .ok () (w.putObj b (.cells (spliceV arr.toList (o + i) vs).toArray e (0, 0))) := by
  induction vs with
  | nil =>
    intro w arr h o i _ _
    simp only [storeCells, Sem.run_pure]
    rw [putObj_same]
    rw [h]
    simp [spliceV]
  | cons v vs ih =>
    intro w arr h o i hb h1
    simp only [List.length_cons] at hb
    have hi : o + i < arr.size := by omega
    have hv : arr[o + i]? = some arr[o + i] := Array.getElem?_eq_getElem hi
    have hs : (store ((⟨b, o, none⟩ : Addr).add i) v).run P w = .ok () (w.putObj b (.cells (arr.setIfInBounds (o + i) v) e (0, 0))) := by
      rw [addr_add, run_store _ _ _ _ _ (h1 v (by simp)), cell_at h, hv]
      simp only [frozen_at h, Bool.false_eq_true, if_false, setCell_put h]
    simp only [storeCells, Sem.run_bind, hs, Result.andThen_ok]
    have hb' := (Array.getElem?_eq_some_iff.1 h).1
    rw [ih (arr := arr.setIfInBounds (o + i) v) (World.putObj_heap_same hb') o (i + 1) (by simpa using (by omega)) (fun u hu => h1 u (by simp [hu]))]
    rw [putObj_putObj]
    congr 3
    simp only [spliceV, Array.toList_setIfInBounds, List.length_cons]
    congr 1
    apply List.ext_getElem?
    intro j
    have hl : arr.toList.length = arr.size := by simp
    have e1 := spliceV_get (cs := arr.toList.set (o + i) v) (ns := vs) (off := o + (i + 1)) (by rw [List.length_set, hl]; omega) j
    have e2 := spliceV_get (cs := arr.toList) (ns := v :: vs) (off := o + i) (by rw [hl, List.length_cons]; omega) j
    have e1' : (List.take (o + (i + 1)) (arr.toList.set (o + i) v) ++ (vs ++ List.drop (o + (i + 1) + vs.length) (arr.toList.set (o + i) v)))[j]? = _ := e1
    have e2' : (List.take (o + i) arr.toList ++ (v :: vs ++ List.drop (o + i + (vs.length + 1)) arr.toList))[j]? = _ := e2
    rw [e1', e2', List.length_cons]
    by_cases h3 : j = o + i
    · subst h3
      rw [if_neg (by omega), if_pos (by omega), List.getElem?_set_self (by rw [hl]; omega), Nat.sub_self]
      rfl
    · by_cases h4 : o + (i + 1) ≤ j ∧ j < o + (i + 1) + vs.length
      · rw [if_pos h4, if_pos (by omega)]
        rw [show j - (o + i) = (j - (o + (i + 1))) + 1 by omega, List.getElem?_cons_succ]
      · rw [if_neg h4, if_neg (by omega), List.getElem?_set_ne (by omega)]
end cells

section
variable {P : Program} {B : Nat} {w0 w : World} {M : Mp} {X : Nat → Option AO} {h h' : AH}

def AH.WF (h : AH) : Prop := ∀ id, h.n ≤ id → h.get id = none
structure Ext (h h' : AH) : Prop where
  n : h.n ≤ h'.n
  pb : h'.pb = h.pb
  ws : ∀ id, id ∈ h.ws → id ∈ h'.ws
  same : ∀ id, id < h.n → id < h.pb → id ∉ h'.ws → h'.get id = h.get id
  new : ∀ id, id ∈ h'.ws → id ∈ h.ws ∨ id < h.pb
theorem Ext.refl (h : AH) : Ext h h := ⟨Nat.le_refl _, rfl, fun _ h => h, fun _ _ _ _ => rfl, fun _ h => .inl h⟩
theorem Ext.trans {a b c : AH} (h : Ext a b) (k : Ext b c) : Ext a c where
  n := Nat.le_trans h.n k.n
  pb := k.pb.trans h.pb
  ws := fun id hid => k.ws id (h.ws id hid)
  same := fun id h1 h2 h3 => (k.same id (Nat.lt_of_lt_of_le h1 h.n) (h.pb ▸ h2) h3).trans (h.same id h1 h2 (fun e => h3 (k.ws id e)))
  new := fun id e => (k.new id e).elim (h.new id) fun e => .inr (h.pb ▸ e)
theorem Ext.push (h : AH) (o : AO) : Ext h (h.push o) :=
  ⟨by simp [AH.push], rfl, fun _ e => e, fun id h1 _ _ => by rw [AH.get_push, if_neg (by omega)], fun _ h => .inl h⟩
theorem Ext.set (h : AH) (id : Nat) (o : AO) : Ext h (h.set id o) where
  n := Nat.le_refl _
  pb := rfl
  ws := fun j hj => by
    unfold AH.set
    by_cases e : id < h.pb
    · simp [decide_eq_true e, hj]
    · simp [decide_eq_false e, hj]
  same := fun j h1 h2 h3 => by
    rw [AH.get_set]
    by_cases e : j = id
    · subst e
      exfalso; apply h3
      simp [AH.set, decide_eq_true h2]
    · rw [if_neg e]
  new := fun j hj => by
    unfold AH.set at hj
    by_cases e : id < h.pb
    · simp only [decide_eq_true e, cond_true, List.mem_cons] at hj
      rcases hj with rfl | hj
      · exact .inr e
      · exact .inl hj
    · simp only [decide_eq_false e, cond_false] at hj; exact .inl hj
theorem AH.WF.push (wf : h.WF) (o : AO) : (h.push o).WF := fun id hid => by
  rw [AH.push_n] at hid
  rw [AH.get_push, if_neg (by omega)]; exact wf id (by omega)
theorem AH.WF.set (wf : h.WF) {id : Nat} (hid : id < h.n) (o : AO) : (h.set id o).WF := fun j hj => by
  rw [AH.set_n] at hj
  rw [AH.get_set, if_neg (by omega)]; exact wf j hj
theorem AH.WF.lt (wf : h.WF) {id : Nat} {o : AO} (e : h.get id = some o) : id < h.n := by
  rcases Nat.lt_or_ge id h.n with k | k
  · exact k
  · rw [wf id k] at e; cases e

/-- Behind a step: what the heap tells below its size, else what was told before. -/
def ovr (h' : AH) (X : Nat → Option AO) : Nat → Option AO := fun id => if id < h'.n then h'.get id else X id
/-- .. the new blocks alone. -/
def ovw (h h' : AH) (X : Nat → Option AO) : Nat → Option AO := fun id => if h.n ≤ id ∧ id < h'.n then h'.get id else X id

structure Stp (B : Nat) (w0 : World) (M : Mp) (h h' : AH) (Y : Nat → Option AO) (M' : Mp) (w' : World) : Prop where
  le : M.le M'
  dom : ∀ id, M id = none → (id < h.n ∨ h'.n ≤ id) → M' id = none
  rel : Rel B w0 M' Y w'

theorem Stp.same (R : Rel B w0 M X w) (h : AH) {Y : Nat → Option AO} (e : ∀ id p, M id = some p → Y id = X id) : Stp B w0 M h h Y M w := ⟨.refl _, fun _ e _ => e, R.congr e⟩
theorem ovr_same {X : Nat → Option AO} (agree : ∀ id, id < h.n → X id = h.get id) : ovr h X = X := by
  funext id; unfold ovr; split
  · rename_i e; exact (agree id e).symm
  · rfl
theorem ovw_same {X : Nat → Option AO} : ovw h h X = X := by
  funext id; unfold ovw; split
  · rename_i e; omega
  · rfl

/-- A new block. -/
theorem Stp.push (R : Rel B w0 M X w) (h : AH) (hM : M h.n = none) {o : AO} {obj : Obj} {p : Pt} (hp : p.blk = w.heap.size)
    (ho : OR B (M.add h.n p) p (w.alloc obj) o) : Stp B w0 M h (h.push o) (ovw h (h.push o) X) (M.add h.n p) (w.alloc obj) where
  le := Mp.le_add hM
  dom := fun id e hid => by
    rw [AH.push_n] at hid
    rw [Mp.add_at, if_neg (by omega)]; exact e
  rel := by
    refine (R.alloc hM hp ho).congr fun id q hq => ?_
    unfold ovw
    rw [AH.push_n, AH.get_push]
    by_cases e : id = h.n
    · rw [if_pos (by omega), if_pos e, if_pos e]
    · rw [if_neg (by omega), if_neg e]
theorem OR.row {B : Nat} {M : Mp} {w : World} {cs : List AV} {arr : Array Value} {e : TypeId} (hB : B ≤ w.heap.size) (hc : RVs M cs (arr.toList.take cs.length)) (hl : cs.length ≤ arr.size) :
    OR B M ⟨w.heap.size, 0, arr.size⟩ (w.alloc (.cells arr e)) (.cells cs false) :=
  ⟨arr, e, (0, 0), World.alloc_heap_new w _, rfl, by simpa using hl, by simpa using hc, .inr ⟨rfl, hB⟩⟩
theorem OR.row' {B : Nat} {M : Mp} {w : World} {cs : List AV} {arr : Array Value} {e : TypeId} (hB : B ≤ w.heap.size) (hc : RVs M cs arr.toList) :
    OR B M ⟨w.heap.size, 0, arr.size⟩ (w.alloc (.cells arr e)) (.cells cs false) := by
  have hl := hc.length
  refine OR.row hB ?_ (by simpa using Nat.le_of_eq hl)
  rw [List.take_of_length_le (by omega)]; exact hc

theorem newVarA_ok {v : AV} {v' : Value} {r : AV × AH} (e : newVarA h v = some r) (hv : RV M v v') (R : Rel B w0 M X w) (hM : M h.n = none) (t : TypeId) :
    ∃ o, r.2 = h.push o ∧ ∃ M' w' p', Stp B w0 M h r.2 (ovw h r.2 X) M' w' ∧ RV M' r.1 p' ∧ ((do pure (Value.pointer (some (← newVar t v'))) : Sem Value).run P w = .ok p' w') := by
  unfold newVarA at e
  split at e
  · rename_i cs hb
    injection e with e; subst e
    have hc := hv.box hb
    refine ⟨_, rfl, M.add h.n ⟨w.heap.size, 0, v'.cells.size⟩, w.alloc (.cells v'.cells t), .pointer (some ⟨w.heap.size, 0, none⟩), ?_, ⟨_, Mp.add_same _ _ _, rfl⟩, ?_⟩
    · exact Stp.push R h hM rfl (OR.row' R.big (hc.mono (Mp.le_add hM)))
    · simp only [newVar, newRow, Sem.run_bind, run_newObj, Result.andThen_ok, Sem.run_pure, World.alloc]
  · simp at e
theorem allocA_ok {v : AV} {v' : Value} {r : AV × AH} (t : TypeId) (e : allocA P h t v = some r) (hv : RV M v v') (R : Rel B w0 M X w) (hM : M h.n = none) :
    ∃ o, r.2 = h.push o ∧ ∃ M' w' p', Stp B w0 M h r.2 (ovw h r.2 X) M' w' ∧ RV M' r.1 p' ∧ ((do pure (Value.pointer (some (← newVar t v'))) : Sem Value).run P w = .ok p' w') := by
  unfold allocA at e
  cases hb : isBld P t with
  | false => rw [hb] at e; exact newVarA_ok (P := P) e hv R hM t
  | true =>
    rw [hb] at e
    simp only [cond_true] at e
    split at e
    · rename_i cs hb
      injection e with e; subst e
      have hc := hv.box hb
      have hcl := hc.length
      refine ⟨_, rfl, M.add h.n ⟨w.heap.size, 0, v'.cells.size⟩, w.alloc (.cells v'.cells t), .pointer (some ⟨w.heap.size, 0, none⟩), ?_, ⟨_, Mp.add_same _ _ _, rfl⟩, ?_⟩
      · refine Stp.push R h hM rfl ⟨rfl, by simpa using hcl.symm, _, World.alloc_heap_new w _, hc.mono (Mp.le_add hM), R.big⟩
      · simp only [newVar, newRow, Sem.run_bind, run_newObj, Result.andThen_ok, Sem.run_pure, World.alloc]
    · simp at e
theorem loadA_ok {t : TypeId} {a v : AV} {a' : Value} (e : loadA P h t a = some v) (ha : RV M a a') (R : Rel B w0 M X w)
    (agree : ∀ id off, a = .ptr id off → X id = h.get id) : ∃ v', (Instr.loadAt t a').run P w = .ok v' w ∧ RV M v v' := by
  unfold loadA at e
  split at e
  · rename_i id off
    obtain ⟨p, hp, rfl⟩ := ha
    obtain ⟨o, hx, ho⟩ := R.obj id p hp
    rw [agree id off rfl] at hx
    have key : ∀ cs, cellsAt h id = some cs → ∃ arr el fz, w.heap[p.blk]? = some (.cells arr el fz) ∧ p.base + cs.length ≤ arr.size ∧ RVs M cs ((arr.toList.drop p.base).take cs.length) := by
      intro cs hc
      unfold cellsAt at hc
      rw [hx] at hc
      cases o <;> simp only [reduceCtorEq, Option.some.injEq] at hc <;> subst hc
      · obtain ⟨arr, el, fz, h1, h2, h3, h4, h5⟩ := ho
        exact ⟨arr, el, fz, h1, h3, h4⟩
      · obtain ⟨arr, h1, h2, h3, h4, h5⟩ := ho
        exact ⟨arr, _, _, h1, h3, h4⟩
      · obtain ⟨h1, h2, arr, h3, h4, h5⟩ := ho
        have hl := h4.length
        exact ⟨arr, _, _, h3, by rw [h1]; simpa using Nat.le_of_eq hl, by rw [h1, List.drop_zero, List.take_of_length_le (by omega)]; exact h4⟩
    split at e
    · rename_i cs n hc ha hn
      obtain ⟨arr, el, fz, h1, h2, h3⟩ := key cs hc
      simp only [Option.map_eq_some_iff] at e
      obtain ⟨xs, hxs, rfl⟩ := e
      unfold cut at hxs
      by_cases hb : off + n ≤ cs.length
      · rw [decide_eq_true hb] at hxs; simp only [cond_true, Option.some.injEq] at hxs; subst hxs
        have hl := run_loadCells (P := P) h1 (o := p.base + off) (n := n) (by omega)
        refine ⟨.agg ((arr.toList.drop (p.base + off)).take n).toArray, ?_, _, rfl, ?_⟩
        · simp only [Instr.loadAt, Instr.sureAddr, Sem.run_bind, Sem.run_pure, Result.andThen_ok, loadVar, run_isAgg ha, if_true, run_sizeOf hn, hl]
        · have := (h3.drop off).take n
          simp only [List.drop_take, List.take_take, List.drop_drop] at this
          rw [Nat.min_eq_left (by omega)] at this
          exact this
      · rw [decide_eq_false hb] at hxs; simp at hxs
    · rename_i cs hc ha
      obtain ⟨arr, el, fz, h1, h2, h3⟩ := key cs hc
      obtain ⟨v', hv, hr⟩ := h3.get e
      have hlt : off < cs.length := (List.getElem?_eq_some_iff.1 e).1
      rw [List.getElem?_take, if_pos hlt, List.getElem?_drop] at hv
      have hv' : arr[p.base + off]? = some v' := by simpa using hv
      refine ⟨v', ?_, hr⟩
      simp only [Instr.loadAt, Instr.sureAddr, Sem.run_bind, Sem.run_pure, Result.andThen_ok, loadVar, run_isAgg ha, Bool.false_eq_true, if_false, run_load_at h1 hv']
    · simp at e
  · rename_i cs off
    obtain ⟨b, o, arr, rfl, him, hsz, h3⟩ := ha
    obtain ⟨⟨el, fz, h1⟩, _⟩ := R.im b arr him
    split at e
    · rename_i n ha hn
      simp only [Option.map_eq_some_iff] at e
      obtain ⟨xs, hxs, rfl⟩ := e
      unfold cut at hxs
      by_cases hb : off + n ≤ cs.length
      · rw [decide_eq_true hb] at hxs; simp only [cond_true, Option.some.injEq] at hxs; subst hxs
        have hl := run_loadCells (P := P) h1 (o := o + off) (n := n) (by omega)
        refine ⟨.agg ((arr.toList.drop (o + off)).take n).toArray, ?_, _, rfl, ?_⟩
        · simp only [Instr.loadAt, Instr.sureAddr, Sem.run_bind, Sem.run_pure, Result.andThen_ok, loadVar, run_isAgg ha, if_true, run_sizeOf hn, hl]
        · have := (h3.drop off).take n
          simp only [List.drop_take, List.take_take, List.drop_drop] at this
          rw [Nat.min_eq_left (by omega)] at this
          exact this.mono M.pure_le
      · rw [decide_eq_false hb] at hxs; simp at hxs
    · rename_i ha
      obtain ⟨v', hv, hr⟩ := h3.get e
      replace hr := RV.mono M.pure_le _ _ hr
      have hlt : off < cs.length := (List.getElem?_eq_some_iff.1 e).1
      rw [List.getElem?_take, if_pos hlt, List.getElem?_drop] at hv
      have hv' : arr[o + off]? = some v' := by simpa using hv
      refine ⟨v', ?_, hr⟩
      simp only [Instr.loadAt, Instr.sureAddr, Sem.run_bind, Sem.run_pure, Result.andThen_ok, loadVar, run_isAgg ha, Bool.false_eq_true, if_false, run_load_at h1 hv']
    · simp at e
  · simp at e

theorem storeRow {id off : Nat} {ns : List AV} {ns' : List Value} {p : Pt} {cs : List AV} {o0 : AO} {mk : List AV → AO} {arr : Array Value} {el : TypeId} (hg : h.get id = some o0) (hg0 : o0 ≠ .gone) (hg00 : ∀ cs, o0 ≠ .cells cs true)
    (h1 : w.heap[p.blk]? = some (.cells arr el (0, 0))) (h3 : p.base + cs.length ≤ arr.size) (h4 : RVs M cs ((arr.toList.drop p.base).take cs.length)) (hB : B ≤ p.blk)
    (hmk : ∀ {w' : World} {arr' : Array Value}, w'.heap[p.blk]? = some (.cells arr' el (0, 0)) → arr'.size = arr.size → RVs M (splice cs off ns) ((arr'.toList.drop p.base).take (splice cs off ns).length) → OR B M p w' (mk (splice cs off ns)))
    (hb : off + ns.length ≤ cs.length ∧ ns.all AV.one = true) (hp : M id = some p) (hn : RVs M ns ns') (R : Rel B w0 M X w) (wf : h.WF)
    (agree : ∀ id, id < h.n → X id = h.get id) :
    (h.set id (mk (splice cs off ns))).WF ∧ Ext h (h.set id (mk (splice cs off ns))) ∧ (h.set id (mk (splice cs off ns))).n = h.n ∧ ∃ w', Rel B w0 M (ovr (h.set id (mk (splice cs off ns))) X) w' ∧ (storeCells ⟨p.blk, p.base + off, none⟩ ns').run P w = .ok () w' := by
  have hlt := wf.lt hg
  obtain ⟨o, hx, ho⟩ := R.obj id p hp
  have hx0 := hx
  rw [agree id hlt, hg] at hx; injection hx with hx; subst hx
  have hones : ∀ v ∈ ns', v.oneCell' = true := by
    intro v hv
    obtain ⟨i, hi⟩ := List.mem_iff_getElem?.1 hv
    have hil : i < ns.length := by rw [hn.length]; exact (List.getElem?_eq_some_iff.1 hi).1
    have ha := hn.get' (List.getElem?_eq_getElem hil) hi
    exact ha.one (List.all_eq_true.1 hb.2 _ (List.getElem_mem _))
  have hrun := run_storeCells (P := P) ns' h1 (p.base + off) 0 (by rw [← hn.length]; omega) hones
  refine ⟨wf.set hlt _, .set _ _ _, rfl, _, ?_, hrun⟩
  refine (R.put hp hx0 hg0 hg00 hB (o := mk (splice cs off ns)) ?_).congr fun j q hq => ?_
  · refine hmk (World.putObj_heap_same (Array.getElem?_eq_some_iff.1 h1).1) ?_ ?_
    · simp only [List.size_toArray]
      rw [spliceV_length (by simp only [Array.length_toList]; rw [← hn.length]; omega)]; simp
    · have hs := splice_ok h4 hn off
      have : ((spliceV arr.toList (p.base + off + 0) ns').toArray.toList.drop p.base).take (splice cs off ns).length = spliceV ((arr.toList.drop p.base).take cs.length) off ns' := by
        rw [splice_length hb.1]
        simp only [Nat.add_zero]
        have hnl := hn.length
        have hal : arr.toList.length = arr.size := by simp
        apply List.ext_getElem?
        intro j
        rw [spliceV_get (by rw [List.length_take, List.length_drop, hal]; omega)]
        simp only [List.getElem?_take, List.getElem?_drop]
        by_cases hj : j < cs.length
        · rw [if_pos hj, spliceV_get (by rw [hal]; omega), if_pos hj]
          by_cases hj1 : off ≤ j ∧ j < off + ns'.length
          · rw [if_pos (by omega), if_pos hj1]; congr 1; omega
          · rw [if_neg (by omega), if_neg hj1]
        · rw [if_neg hj, if_neg (by omega), if_neg hj]
      rw [this]; exact hs
  · unfold ovr
    rw [AH.set_n, AH.get_set]
    by_cases ej : j = id
    · subst ej; rw [if_pos hlt, if_pos rfl, if_pos rfl]
    · rw [if_neg ej, if_neg ej]
      split
      · rename_i e; exact (agree j e).symm
      · rfl
/-- Cells written into a block of the call's own. -/
theorem storeCellsA_ok {id off : Nat} {ns : List AV} {ns' : List Value} {p : Pt} (e : storeCellsA h id off ns = some h') (hp : M id = some p) (hn : RVs M ns ns') (R : Rel B w0 M X w) (wf : h.WF)
    (agree : ∀ id, id < h.n → X id = h.get id) :
    h'.WF ∧ Ext h h' ∧ h'.n = h.n ∧ ∃ w', Rel B w0 M (ovr h' X) w' ∧ (storeCells ⟨p.blk, p.base + off, none⟩ ns').run P w = .ok () w' := by
  unfold storeCellsA at e
  have conds : ∀ {cs : List AV} {o : AH}, (bif decide (off + ns.length ≤ cs.length) && ns.all AV.one then some o else none) = some h' → (off + ns.length ≤ cs.length ∧ ns.all AV.one = true) ∧ o = h' := by
    intro cs o e
    by_cases hb : off + ns.length ≤ cs.length ∧ ns.all AV.one = true
    · rw [decide_eq_true hb.1, hb.2] at e; simp only [Bool.and_self, cond_true, Option.some.injEq] at e; exact ⟨hb, e⟩
    · exfalso
      have : (decide (off + ns.length ≤ cs.length) && ns.all AV.one) = false := by
        rw [Bool.eq_false_iff]; intro hh; simp only [Bool.and_eq_true, decide_eq_true_eq] at hh; exact hb hh
      rw [this] at e; simp at e
  split at e
  · injection e with e; subst e
    cases hn
    exact ⟨wf, .refl _, rfl, w, by rw [ovr_same agree]; exact R, rfl⟩
  · rename_i hne
    split at e
    · rename_i cs hg
      obtain ⟨hb, rfl⟩ := conds e
      obtain ⟨o, hx, ho⟩ := R.obj id p hp
      rw [agree id (wf.lt hg), hg] at hx; injection hx with hx; subst hx
      obtain ⟨arr, el, fz, h1, h2, h3, h4, h5⟩ := ho
      have hfz : fz = (0, 0) ∧ B ≤ p.blk := by rcases h5 with h5 | h5; cases h5; exact h5
      obtain ⟨rfl, hB⟩ := hfz
      exact storeRow (P := P) (mk := fun cs => .cells cs false) hg (by simp) (by simp) h1 h3 h4 hB (fun g1 g2 g3 => ⟨_, el, (0, 0), g1, by rw [g2]; exact h2, by rw [splice_length hb.1, g2]; exact h3, g3, .inr ⟨rfl, hB⟩⟩) hb hp hn R wf agree
    · rename_i te cs hg
      obtain ⟨hb, rfl⟩ := conds e
      obtain ⟨o, hx, ho⟩ := R.obj id p hp
      rw [agree id (wf.lt hg), hg] at hx; injection hx with hx; subst hx
      obtain ⟨h1, h2, arr, h3, h4, hB⟩ := ho
      have hl := h4.length
      have hl' : cs.length = arr.size := by simpa using hl
      exact storeRow (P := P) (mk := fun cs => .var te cs) hg (by simp) (by simp) h3 (by rw [h1]; omega) (by rw [h1, List.drop_zero, List.take_of_length_le (by omega)]; exact h4) hB
        (fun {w'} {arr'} g1 g2 g3 => ⟨h1, by rw [splice_length hb.1]; exact h2, arr', g1, by rw [h1, List.drop_zero, List.take_of_length_le (by rw [splice_length hb.1]; simp; omega)] at g3; exact g3, hB⟩) hb hp hn R wf agree
    · simp at e
theorem storeA_ok {t : TypeId} {a v : AV} {a' v' : Value} (e : storeA P h t a v = some h') (ha : RV M a a') (hv : RV M v v') (R : Rel B w0 M X w) (wf : h.WF)
    (agree : ∀ id, id < h.n → X id = h.get id) :
    h'.WF ∧ Ext h h' ∧ h'.n = h.n ∧ ∃ w', Rel B w0 M (ovr h' X) w' ∧ (Instr.storeAt t a' v').run P w = .ok () w' := by
  unfold storeA at e
  split at e
  · rename_i id off cs n hb hn
    obtain ⟨p, hp, rfl⟩ := ha
    by_cases hl : cs.length = n
    · rw [decide_eq_true hl] at e; simp only [cond_true] at e
      have hc := hv.box hb
      obtain ⟨h1, h2, h3, w', h4, h5⟩ := storeCellsA_ok (P := P) e hp hc R wf agree
      refine ⟨h1, h2, h3, w', h4, ?_⟩
      have hsz : v'.cells.size = n := by rw [← hl, hc.length]; simp
      simp only [Instr.storeAt, Instr.sureAddr, Sem.run_bind, Sem.run_pure, Result.andThen_ok, storeVar, run_sizeOf hn, hsz, ne_eq, not_true_eq_false, if_false, Sem.run_ite, h5]
    · rw [decide_eq_false hl] at e; simp at e
  · simp at e
end
end Go.Ai
