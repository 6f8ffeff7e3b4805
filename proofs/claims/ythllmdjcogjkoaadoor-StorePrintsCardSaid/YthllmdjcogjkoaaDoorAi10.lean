/- What an operation does in the model, where the abstract machine does it: append, copy, clear; all operations together. -/
import Derived.Test.YthllmdjcogjkoaaDoorAi9
namespace Go.Ai
set_option linter.unusedSimpArgs false
set_option linter.unusedVariables false

/-- The cells that are appended, in the model. -/
def appended (elem : TypeId) (size : Nat) (x : Value) (zeros : Bool) (n : Nat) : Sem (Array Value) :=
  if (!zeros) = true then Builtin.firstCells size n x
  else if n * size = 0 then pure #[]
  else do pure (Builtin.zeroCells (← zeroValue elem).cells n)
/-- append behind the reading of its operands. -/
def appTail (elem : TypeId) (size : Nat) (base : Option Addr) (sLen sCap : Nat) (s x : Value) (zeros : Bool) (n : Nat) : Sem Value :=
  if sLen + n ≤ sCap then do
    let new ← appended elem size x zeros n
    if let some a := base then storeCells (a.add (sLen * size)) new.toList
    pure (.slice base (sLen + n) sCap)
  else do
    if ((sLen + n : Nat) : Int) > IntKind.i64.max ∧ (zeros = true ∨ (← typeInfo elem).bytes = 0) then runtimePanic (.error "growslice: len out of range")
    if Builtin.nextslicecap (sLen + n) sCap * (← typeInfo elem).bytes > 2 ^ 48 then (if zeros then runtimePanic (.error "growslice: len out of range") else do
      if !(← Builtin.mayShare size sLen n base x) then mark .noRoom
      unsupported (.resourceLimit "append: a slice or a string whose bytes no memory bears"))
    let newCap ← choose (.appendCap (sLen + n) sCap elem)
    askRoom (newCap * (← typeInfo elem).bytes)
    let old ← Builtin.firstCells size sLen s
    let new ← appended elem size x zeros n
    let rest := Builtin.zeroCells (← zeroValue elem).cells (newCap - (sLen + n))
    pure (.slice (some (← newRow elem (old ++ new ++ rest))) (sLen + n) newCap)

section
variable {P : Program} {B : Nat} {w0 w : World} {M : Mp} {X : Nat → Option AO} {h h' : AH} {t : TypeId} {z x : AV} {x' : Value}

def isIntD : TypeDesc → Bool
  | .int _ => true
  | _ => false
/-- What moreA tells of the model. -/
structure More (P : Program) (B : Nat) (w0 : World) (M : Mp) (X : Nat → Option AO) (e : TypeId) (size : Nat) (xt : TypeId) (x' : Value) (m : Nat) (ns : List AV) (zeros : Bool) (u : TypeDesc) : Prop where
  und : P.underlying xt = some u
  zr : isIntD u = zeros
  ln : zeros = false → ∀ w, (Builtin.lenOf x').run P w = .ok m w
  nm : zeros = true → ∃ (k : IntKind) (n : Int) (i : TypeInfo), x' = .int k n ∧ P.info? e = some i ∧ 0 ≤ IntKind.i64.wrap n ∧ IntKind.i64.wrap n * (i.bytes : Int) ≤ 2 ^ 48 ∧ m = (IntKind.i64.wrap n).toNat
  len : ns.length = m * size
  app : ∀ w, Rel B w0 M X w → ∃ ns', (appended e size x' zeros m).run P w = .ok ns' w ∧ RVs M ns ns'.toList

theorem moreA_ok {e xt : TypeId} {size m : Nat} {ns : List AV} (em : moreA P h e size xt x = some (m, ns)) (hsz : szOf P e = some size) (hx : RV M x x') (wf : h.WF) (agree : ∀ id, id < h.n → X id = h.get id) :
    ∃ zeros u, More P B w0 M X e size xt x' m ns zeros u := by
  unfold moreA at em
  split at em
  · rename_i k hu
    split at em
    · rename_i k2 l zs i hz hi
      cases hx
      simp only at em
      by_cases hb : 0 ≤ IntKind.i64.wrap l ∧ IntKind.i64.wrap l * (i.bytes : Int) ≤ 2 ^ 48
      · rw [decide_eq_true hb] at em; simp only [cond_true, Option.some.injEq, Prod.mk.injEq] at em
        obtain ⟨rfl, rfl⟩ := em
        refine ⟨true, _, hu, rfl, by simp, fun _ => ⟨_, _, i, rfl, hi, hb.1, hb.2, rfl⟩, ?_, ?_⟩
        · obtain ⟨v, n, h1, h2, h3, h4⟩ := zeroCellsA_ok (P := P) (w := w0) (M := M) hz
          rw [hsz] at h3; injection h3 with h3; subst h3
          unfold zerosA; simp [h4]
        · intro w R
          obtain ⟨v, n, h1, h2, h3, h4⟩ := zeroCellsA_ok (P := P) (w := w) (M := M) hz
          rw [hsz] at h3; injection h3 with h3; subst h3
          have hvl : v.cells.size = size := by have := h2.length; simp at this; omega
          unfold appended
          by_cases h0 : (IntKind.i64.wrap l).toNat * size = 0
          · refine ⟨#[], by simp [h0], ?_⟩
            have : (zerosA zs (IntKind.i64.wrap l).toNat).length = 0 := by unfold zerosA; simp [h4]; simpa using h0
            rw [List.length_eq_zero_iff.1 this]; rfl
          · refine ⟨Builtin.zeroCells v.cells (IntKind.i64.wrap l).toNat, by simp [h0, h1], ?_⟩
            have := zeroRow h2 h4 (IntKind.i64.wrap l).toNat v.cells (by rw [if_neg h0])
            unfold Builtin.zeroCells
            rw [hvl]
            rw [hvl] at this
            exact this
      · rw [decide_eq_false hb] at em; simp at em
    · simp at em
  · rename_i u hne hu
    split at em
    · rename_i n hl
      split at em
      · rename_i cs hf
        by_cases hb : cs.length = n * size
        · rw [decide_eq_true hb] at em; simp only [cond_true, Option.some.injEq, Prod.mk.injEq] at em
          obtain ⟨rfl, rfl⟩ := em
          refine ⟨false, u, hu, ?_, fun _ w => lenOfA_ok hl hx, by simp, hb, ?_⟩
          · cases u <;> first | rfl | exact absurd rfl (hne _)
          · intro w R
            obtain ⟨cs', h1, h2⟩ := firstA_ok (P := P) hf hx R agree wf
            exact ⟨cs', by simpa [appended] using h1, h2⟩
        · rw [decide_eq_false hb] at em; simp at em
      · simp at em
    · simp at em
  · simp at em

theorem run_append {ats : Array TypeId} {ut st xt e : TypeId} {size m : Nat} {ns : List AV} {zeros : Bool} {u : TypeDesc} {base : Option Addr} {sLen sCap : Nat}
    (h0 : ats[0]? = some st) (h1 : ats[1]? = some xt) (hu : P.underlying st = some (.slice e)) (hsz : szOf P e = some size) (mo : More P B w0 M X e size xt x' m ns zeros u) :
    (Builtin.append_ ats ut #[.slice base sLen sCap, x']).run P w = (appTail e size base sLen sCap (.slice base sLen sCap) x' zeros m).run P w := by
  have hz := mo.zr
  unfold Builtin.append_
  simp only [h0, h1, List.getElem?_toArray, List.getElem?_cons_zero, List.getElem?_cons_succ, Sem.run_bind, run_underlying hu, Result.andThen_ok, run_sizeOf hsz, run_underlying mo.und, Sem.run_pure]
  cases zeros with
  | true =>
    obtain ⟨k, n, i, rfl, hi, hb1, hb2, rfl⟩ := mo.nm rfl
    have c1 : ¬ IntKind.i64.wrap n < 0 := by omega
    have c2 : ¬ IntKind.i64.wrap n * (i.bytes : Int) > 2 ^ 48 := by omega
    clear mo
    cases u <;> first | (simp [isIntD] at hz; done) | skip
    dsimp only
    rw [if_pos rfl]
    simp only [asInt, asIntOf, Sem.run_bind, Sem.run_pure, Result.andThen_ok]
    rw [if_neg c1]
    simp only [Sem.run_bind, run_typeInfo hi, Result.andThen_ok]
    rw [if_neg c2]
    simp only [Sem.run_bind, Sem.run_pure, Result.andThen_ok]
    simp only [appTail, appended, eq_self, true_or, and_true, if_true]
    rfl
  | false =>
    have hln := mo.ln rfl
    clear mo
    cases u <;> first | (simp [isIntD] at hz; done) | skip
    all_goals
      dsimp only
      rw [if_neg Bool.false_ne_true]
      simp only [Sem.run_bind, hln, Result.andThen_ok]
      simp only [appTail, appended, Bool.false_eq_true, false_or, if_false]
      rfl

/-- append, grown: the row that is made. -/
theorem run_grow {e : TypeId} {size sLen sCap m bytes : Nat} {s : Value} {zeros : Bool} {base : Option Addr} {old new : Array Value} {zs : List AV} (hsz : szOf P e = some size) {i : TypeInfo} (hi : P.info? e = some i) (hz : zeroCellsA P e = some zs)
    (hc : sCap < sLen + m) (hr : roomA i.bytes (sLen + m) = true)
    (ho : (Builtin.firstCells size sLen s).run P w.drew = .ok old w.drew) (hn : (appended e size x' zeros m).run P w.drew = .ok new w.drew) (hol : old.size = sLen * size) (hnl : new.size = m * size) :
    ∃ (newCap : Nat) (rest : Array Value), sLen + m ≤ newCap ∧ rest.size = (newCap - (sLen + m)) * size ∧
      (appTail e size base sLen sCap s x' zeros m).run P w = .ok (.slice (some ⟨w.heap.size, 0, none⟩) (sLen + m) newCap) (w.drew.alloc (.cells (old ++ new ++ rest) e)) := by
  simp only [roomA, decide_eq_true_eq] at hr
  obtain ⟨v, n, h1, h2, h3, h4⟩ := zeroCellsA_ok (P := P) (w := w.drew) (M := ⟨fun _ => none, fun _ => none, fun _ => none⟩) hz
  rw [hsz] at h3; injection h3 with h3; subst h3
  have hvl : v.cells.size = size := by have := h2.length; simp at this; omega
  have hcap := nextcap_le hc
  generalize hnx : Builtin.nextslicecap (sLen + m) sCap = nx at *
  have c1 : ¬ (((sLen + m : Nat) : Int) > IntKind.i64.max ∧ (zeros = true ∨ i.bytes = 0)) := by
    have : IntKind.i64.max = 9223372036854775807 := by decide
    omega
  have c2 : ¬ nx * i.bytes > 2 ^ 48 := by
    have : nx * i.bytes ≤ 4294968064 * 16384 := Nat.mul_le_mul (by omega) hr.2
    omega
  refine ⟨(Question.appendCap (sLen + m) sCap e).cut (w.tape w.drawn (.appendCap (sLen + m) sCap e)), Builtin.zeroCells v.cells ((Question.appendCap (sLen + m) sCap e).cut (w.tape w.drawn (.appendCap (sLen + m) sCap e)) - (sLen + m)), ?_, ?_, ?_⟩
  · show sLen + m ≤ sLen + m + _ % _; omega
  · simp [Builtin.zeroCells, hvl]
  · have hd : ({ w with drawn := w.drawn + 1 } : World) = w.drew := rfl
    simp only [appTail, if_neg (Nat.not_le.2 hc), Sem.run_bind, run_typeInfo hi, Result.andThen_ok, c1, if_false, hnx, c2, Sem.run_pure, run_choose, Question.forced, Bool.false_eq_true, hd, run_askRoom, ho, hn, h1, newRow, run_newObj, World.alloc]
    rfl

theorem cut_length {cs r : List AV} {off n : Nat} (e : cut cs off n = some r) : r.length = n ∧ off + n ≤ cs.length ∧ r = (cs.drop off).take n := by
  unfold cut at e
  by_cases hb : off + n ≤ cs.length
  · rw [decide_eq_true hb] at e; simp only [cond_true, Option.some.injEq] at e; subst e
    exact ⟨by rw [List.length_take, List.length_drop]; omega, hb, rfl⟩
  · rw [decide_eq_false hb] at e; simp at e
theorem firstA_length {zz n id off len : Nat} {cap : Cap} {cs : List AV} (e : firstA h zz n (.slice id off len cap) = some cs) : cs.length = n * zz := by
  simp only [firstA] at e
  by_cases hn : n ≤ len
  · rw [decide_eq_true hn] at e; simp only [cond_true] at e
    split at e
    · exact (cut_length e).1
    · simp at e
  · rw [decide_eq_false hn] at e; simp at e

/-- What is told of cells of the function's own; of bytes. -/
theorem own_of {p : Pt} {cs : List AV} (ho : OR B M p w (.cells cs false)) : ∃ arr el, w.heap[p.blk]? = some (.cells arr el (0, 0)) ∧ p.tot = arr.size ∧ p.base + cs.length ≤ arr.size ∧ RVs M cs ((arr.toList.drop p.base).take cs.length) ∧ B ≤ p.blk ∧ True := by
  obtain ⟨arr, el, fz, h1, h2, h3, h4, h5⟩ := ho
  rcases h5 with h5 | ⟨rfl, h5⟩
  · cases h5
  · exact ⟨arr, el, h1, h2, h3, h4, h5, trivial⟩
theorem own_mk {M : Mp} {q : Pt} {w : World} {cs : List AV} {arr : Array Value} {el : TypeId} (_ : True) (h1 : w.heap[q.blk]? = some (.cells arr el (0, 0))) (h2 : q.tot = arr.size) (h3 : q.base + cs.length ≤ arr.size) (h4 : RVs M cs ((arr.toList.drop q.base).take cs.length)) (h5 : B ≤ q.blk) : OR B M q w (.cells cs false) :=
  ⟨arr, el, _, h1, h2, h3, h4, .inr ⟨rfl, h5⟩⟩
theorem byt_of {p : Pt} {e : TypeId} {cs : List AV} (ho : OR B M p w (.byt e cs)) : ∃ arr el, w.heap[p.blk]? = some (.cells arr el (0, 0)) ∧ p.tot = arr.size ∧ p.base + cs.length ≤ arr.size ∧ RVs M cs ((arr.toList.drop p.base).take cs.length) ∧ B ≤ p.blk ∧ el = e := by
  obtain ⟨arr, h1, h2, h3, h4, h5⟩ := ho
  exact ⟨arr, e, h1, h2, h3, h4, h5, rfl⟩
theorem byt_mk {e : TypeId} {M : Mp} {q : Pt} {w : World} {cs : List AV} {arr : Array Value} {el : TypeId} (he : el = e) (h1 : w.heap[q.blk]? = some (.cells arr el (0, 0))) (h2 : q.tot = arr.size) (h3 : q.base + cs.length ≤ arr.size) (h4 : RVs M cs ((arr.toList.drop q.base).take cs.length)) (h5 : B ≤ q.blk) : OR B M q w (.byt e cs) := by
  subst he; exact ⟨arr, h1, h2, h3, h4, h5⟩
theorem OR.rowByt {cs : List AV} {arr : Array Value} {e : TypeId} (hB : B ≤ w.heap.size) (hc : RVs M cs (arr.toList.take cs.length)) (hl : cs.length ≤ arr.size) : OR B M ⟨w.heap.size, 0, arr.size⟩ (w.alloc (.cells arr e)) (.byt e cs) :=
  ⟨arr, World.alloc_heap_new w _, rfl, by simpa using hl, by simpa using hc, hB⟩
theorem OR.rowA {cs : List AV} {arr : Array Value} {e : TypeId} (hB : B ≤ w.heap.size) (hc : RVs M cs (arr.toList.take cs.length)) (hl : cs.length ≤ arr.size) : OR B M ⟨w.heap.size, 0, arr.size⟩ (w.alloc (.cells arr e)) (Go.Ai.rowA P e cs) := by
  unfold Go.Ai.rowA
  cases isU8 P e
  · exact OR.row hB hc hl
  · exact OR.rowByt hB hc hl
/-- A slice of which the capacity is not known, and that is appended to: in place. -/
theorem inPlace {o0 : AO} {T : TypeId → Prop} {mk : List AV → AO} {id off : Nat} {p : Pt} {cs old ns : List AV} (hg0 : o0 ≠ .gone) (hg00 : ∀ cs, o0 ≠ .cells cs true)
    (hof : OR B M p w o0 → ∃ arr el, w.heap[p.blk]? = some (.cells arr el (0, 0)) ∧ p.tot = arr.size ∧ p.base + cs.length ≤ arr.size ∧ RVs M cs ((arr.toList.drop p.base).take cs.length) ∧ B ≤ p.blk ∧ T el)
    (hmk : ∀ {M : Mp} {q : Pt} {w : World} {cs : List AV} {arr : Array Value} {el : TypeId}, T el → w.heap[q.blk]? = some (.cells arr el (0, 0)) → q.tot = arr.size → q.base + cs.length ≤ arr.size → RVs M cs ((arr.toList.drop q.base).take cs.length) → B ≤ q.blk → OR B M q w (mk cs)) {ns' : List Value} (R : Rel B w0 M X w) (wf : h.WF) (agree : ∀ id, id < h.n → X id = h.get id) (hp : M id = some p) (hg : h.get id = some o0)
    (hold : old = [] ∨ cut cs off old.length = some old) (hfit : p.base + off + old.length + ns.length ≤ p.tot) (hn : RVs M ns ns') (hone : ns.all AV.one = true) (hMn : M h.n = none) :
    ∃ w', Stp B w0 M h ((h.set id .gone).push (mk (old ++ ns))) (ovr ((h.set id .gone).push (mk (old ++ ns))) X) (M.add h.n ⟨p.blk, p.base + off, p.tot⟩) w' ∧
      (storeCells ⟨p.blk, p.base + off + old.length, none⟩ ns').run P w = .ok () w' := by
  have hlt := wf.lt hg
  obtain ⟨o, hx, ho⟩ := R.obj id p hp
  have hx0 := hx
  rw [agree id hlt, hg] at hx; injection hx with hx; subst hx
  obtain ⟨arr, el, h1, h2, h3, h4, hB, hT⟩ := hof ho
  have hnl := hn.length
  have hal : arr.toList.length = arr.size := by simp
  have hones : ∀ v ∈ ns', v.oneCell' = true := by
    intro v hv
    obtain ⟨i, hi⟩ := List.mem_iff_getElem?.1 hv
    have hil : i < ns.length := by rw [hnl]; exact (List.getElem?_eq_some_iff.1 hi).1
    exact (hn.get' (List.getElem?_eq_getElem hil) hi).one (List.all_eq_true.1 hone _ (List.getElem_mem _))
  have hrun := run_storeCells (P := P) ns' h1 (p.base + off + old.length) 0 (by omega) hones
  have hold' : RVs M old ((arr.toList.drop (p.base + off)).take old.length) := by
    rcases hold with rfl | hc
    · exact rfl
    · obtain ⟨_, c2, c3⟩ := cut_length hc
      rw [c3]
      have := (h4.drop off).take old.length
      simp only [List.drop_take, List.take_take, List.drop_drop] at this
      rw [Nat.min_eq_left (by omega)] at this
      have hl : ((cs.drop off).take old.length).length = old.length := by rw [List.length_take, List.length_drop]; omega
      rw [hl]; exact this
  refine ⟨_, ⟨Mp.le_add hMn, ?_, ?_⟩, hrun⟩
  · intro j hj hid
    rw [AH.push_n, AH.set_n] at hid
    rw [Mp.add_at, if_neg (by omega)]; exact hj
  · refine (R.again hMn hp hx0 hg0 hg00 (q := ⟨p.blk, p.base + off, p.tot⟩) rfl (o := mk (old ++ ns)) hB ?_).congr fun j q hq => ?_
    · refine hmk hT (World.putObj_heap_same (Array.getElem?_eq_some_iff.1 h1).1) ?_ ?_ ?_ hB
      · simp only [List.size_toArray, Nat.add_zero]
        rw [spliceV_length (by omega)]; omega
      · simp only [List.size_toArray, Nat.add_zero, List.length_append]
        rw [spliceV_length (by omega)]; omega
      · refine RVs.mono (Mp.le_add hMn) _ _ ?_
        have he : ((spliceV arr.toList (p.base + off + old.length + 0) ns').toArray.toList.drop (p.base + off)).take (old ++ ns).length = ((arr.toList.drop (p.base + off)).take old.length) ++ ns' := by
          apply List.ext_getElem?
          intro j
          simp only [List.getElem?_take, List.getElem?_drop, List.getElem?_append, List.length_append, Nat.add_zero, List.length_take, List.length_drop]
          rw [spliceV_get (by omega), Nat.min_eq_left (by omega)]
          by_cases hj : j < old.length
          · rw [if_pos (by omega), if_neg (by omega), if_pos hj, if_pos hj]
          · rw [if_neg hj]
            by_cases hj2 : j < old.length + ns.length
            · rw [if_pos hj2, if_pos (by omega)]; congr 1; omega
            · rw [if_neg hj2]; symm; apply List.getElem?_eq_none; omega
        show RVs M (old ++ ns) _
        rw [he]; exact hold'.append hn
    · unfold ovr
      rw [AH.push_n, AH.set_n, AH.get_push, AH.set_n, AH.get_set]
      by_cases ej : j = h.n
      · rw [if_pos (by omega), if_pos ej, if_pos ej]
      · rw [if_neg ej, if_neg ej]
        by_cases ei : j = id
        · rw [if_pos (by omega), if_pos ei, if_pos ei]
        · rw [if_neg ei, if_neg ei]
          split
          · exact (agree j (by omega)).symm
          · rfl
/-- .. moved. -/
theorem moved {o : AO} {id : Nat} {cs : List AV} {el : TypeId} {arr : Array Value} (R : Rel B w0 M X w) (wf : h.WF) (agree : ∀ id, id < h.n → X id = h.get id) (hlt : id < h.n)
    (hcs : RVs M cs (arr.toList.take cs.length)) (hl : cs.length ≤ arr.size) (hMn : M h.n = none)
    (ho : OR B (M.add h.n ⟨w.heap.size, 0, arr.size⟩) ⟨w.heap.size, 0, arr.size⟩ (w.drew.alloc (.cells arr el)) o) :
    Stp B w0 M h ((h.set id .gone).push o) (ovr ((h.set id .gone).push o) X) (M.add h.n ⟨w.heap.size, 0, arr.size⟩) (w.drew.alloc (.cells arr el)) where
  le := Mp.le_add hMn
  dom := fun j hj hid => by
    rw [AH.push_n, AH.set_n] at hid
    rw [Mp.add_at, if_neg (by omega)]; exact hj
  rel := by
    refine ((R.drew.kill id).alloc hMn (o := o) (obj := .cells arr el) (p := ⟨w.heap.size, 0, arr.size⟩) rfl ho).congr fun j q hq => ?_
    unfold ovr
    rw [AH.push_n, AH.set_n, AH.get_push, AH.set_n, AH.get_set]
    by_cases ej : j = h.n
    · rw [if_pos (by omega), if_pos ej, if_pos ej]
    · rw [if_neg ej, if_neg ej]
      by_cases ei : j = id
      · rw [if_pos (by omega), if_pos ei, if_pos ei]
      · rw [if_neg ei, if_neg ei]
        split
        · exact (agree j (by omega)).symm
        · rfl

theorem appendA_ok {ats : Array TypeId} {ut : TypeId} {args : List AV} {args' : Array Value} {r : AV × AH} (e : appendA P h ats.toList args = some r) (ha : RVs M args args'.toList)
    (R : Rel B w0 M X w) (wf : h.WF) (agree : ∀ id, id < h.n → X id = h.get id) (hM : ∀ id, h.n ≤ id → id < r.2.n → M id = none) :
    r.2.WF ∧ Ext h r.2 ∧ ∃ M' w' v', Stp B w0 M h r.2 (ovr r.2 X) M' w' ∧ RV M' r.1 v' ∧ (Builtin.append_ ats ut args').run P w = .ok v' w' := by
  unfold appendA at e
  split at e
  · rename_i st xt s x hats
    obtain ⟨s', _, e1, hs, x', _, rfl, hx, hnil⟩ := ha
    cases hnil
    obtain rfl : args' = #[s', x'] := by apply Array.ext'; rw [e1]
    have h0 : ats[0]? = some st := by have := congrArg (·[0]?) hats; simpa using this
    have h1 : ats[1]? = some xt := by have := congrArg (·[1]?) hats; simpa using this
    split at e
    · simp at e
    · rename_i el hel
      have hu : P.underlying st = some (.slice el) := by unfold sliceElem at hel; split at hel <;> simp_all
      split at e
      · rename_i i zs hi hz
        have hsz : szOf P el = some i.size := by simp [szOf, hi]
        split at e
        · simp at e
        · rename_i m ns hmo
          obtain ⟨zeros, u, mo⟩ := moreA_ok (P := P) (B := B) (w0 := w0) (M := M) (X := X) hmo hsz hx wf agree
          have Rd := R.drew
          -- what a grown row comes to
          have grown : ∀ (old : List AV) (len : Nat) (sc : Nat), len + m > sc → roomA i.bytes (len + m) = true → ∀ base, s' = .slice base len sc → old.length = len * i.size →
              (∃ old', (Builtin.firstCells i.size len s').run P w.drew = .ok old' w.drew ∧ RVs M old old'.toList) → M h.n = none →
              ∃ (newCap : Nat) (arr : Array Value), (Builtin.append_ ats ut #[s', x']).run P w = .ok (.slice (some ⟨w.heap.size, 0, none⟩) (len + m) newCap) (w.drew.alloc (.cells arr el)) ∧ arr.size = newCap * i.size ∧ len + m ≤ newCap ∧
                RVs M (old ++ ns) (arr.toList.take (old ++ ns).length) ∧ (old ++ ns).length ≤ arr.size := by
            intro old len sc hlt hroom base hs' hol ⟨old', ho1, ho2⟩ hMn
            obtain ⟨ns', hn1, hn2⟩ := mo.app w.drew Rd
            have hol' : old'.size = len * i.size := by have := ho2.length; simp at this; omega
            have hnl' : ns'.size = m * i.size := by have := hn2.length; have := mo.len; simp at *; omega
            obtain ⟨newCap, rest, hc1, hc2, hrun⟩ := run_grow (P := P) (w := w) (bytes := i.bytes) (base := base) (x' := x') hsz hi hz (sLen := len) (sCap := sc) (m := m) (s := s') (zeros := zeros) (by omega) hroom ho1 hn1 hol' hnl'
            refine ⟨newCap, old' ++ ns' ++ rest, ?_, ?_, hc1, ?_, ?_⟩
            · subst hs'; rw [run_append h0 h1 hu hsz mo]; exact hrun
            · simp only [Array.size_append, hol', hnl', hc2]
              rw [← Nat.add_mul, ← Nat.add_mul]; congr 1; omega
            · have hl : (old ++ ns).length = (old'.toList ++ ns'.toList).length := (ho2.append hn2).length
              rw [hl]
              simp only [Array.toList_append]
              rw [List.take_append_of_le_length (Nat.le_refl _), List.take_length]
              exact ho2.append hn2
            · have hl : (old ++ ns).length = (old'.toList ++ ns'.toList).length := (ho2.append hn2).length
              rw [hl]; simp
          have stpGrow : ∀ (o : AO) (cs : List AV) (arr : Array Value), (∀ {M : Mp}, RVs M cs (arr.toList.take cs.length) → OR B M ⟨w.heap.size, 0, arr.size⟩ (w.drew.alloc (.cells arr el)) o) → RVs M cs (arr.toList.take cs.length) → cs.length ≤ arr.size → M h.n = none →
              Stp B w0 M h (h.push o) (ovr (h.push o) X) (M.add h.n ⟨w.heap.size, 0, arr.size⟩) (w.drew.alloc (.cells arr el)) := by
            intro o cs arr hor hcs hl hMn
            have := Stp.push Rd h hMn (o := o) (obj := .cells arr el) (p := ⟨w.heap.size, 0, arr.size⟩) rfl (hor (hcs.mono (Mp.le_add hMn)))
            refine ⟨this.le, this.dom, this.rel.congr fun id q hq => ?_⟩
            unfold ovr ovw
            rw [AH.push_n, AH.get_push]
            by_cases e : id = h.n
            · rw [if_pos (by omega), if_pos e, if_pos (by omega)]
            · rw [if_neg e]
              by_cases e2 : id < h.n + 1
              · rw [if_pos e2, if_neg (by omega)]; exact (agree id (by omega)).symm
              · rw [if_neg e2, if_neg (by omega)]
          split at e
          · -- a nil slice
            cases hs
            by_cases hm0 : m = 0
            · rw [decide_eq_true hm0] at e; simp only [cond_true, Option.some.injEq] at e; subst e; subst hm0
              refine ⟨wf, .refl _, M, w, .slice none 0 0, Stp.same R h (fun id p hp => by rw [ovr_same agree]), rfl, ?_⟩
              rw [run_append h0 h1 hu hsz mo]
              obtain ⟨ns', hn1, hn2⟩ := mo.app w R
              simp only [appTail, Nat.zero_add, Nat.le_refl, if_true, Sem.run_bind, hn1, Result.andThen_ok, Sem.run_pure]
            · rw [decide_eq_false hm0] at e; simp only [cond_false] at e
              cases hroom : roomA i.bytes m with
              | false => simp [hroom] at e
              | true =>
                simp only [hroom, cond_true, Option.some.injEq] at e; subst e
                have hMn := hM h.n (Nat.le_refl _) (by rw [AH.push_n]; omega)
                obtain ⟨newCap, arr, hrun, hsize, hle, hrv, hlen⟩ := grown [] 0 0 (by omega) (by simpa using hroom) none rfl (by simp) ⟨#[], rfl, rfl⟩ hMn
                simp only [List.nil_append, Nat.zero_add] at *
                refine ⟨wf.push _, .push _ _, _, _, _, stpGrow _ ns arr (fun hc => OR.rowA (w := w.drew) Rd.big hc hlen) hrv hlen hMn, ⟨_, newCap, Mp.add_same _ _ _, rfl, hle, ?_⟩, hrun⟩
                simp [capOk, hsize]
          · -- a capacity that is known
            rename_i id off len c
            obtain ⟨p, c', hp, rfl, hlc, rfl⟩ := hs
            by_cases hfit : len + m ≤ c'
            · rw [decide_eq_true hfit] at e; simp only [cond_true] at e
              split at e
              · rename_i h2 hst
                injection e with e; subst e
                obtain ⟨ns', hn1, hn2⟩ := mo.app w R
                obtain ⟨g1, g2, g3, w', g4, g5⟩ := storeCellsA_ok (P := P) hst hp hn2 R wf agree
                refine ⟨g1, g2, M, w', .slice (some ⟨p.blk, p.base + off, none⟩) (len + m) c', ⟨.refl _, fun _ e _ => e, g4⟩, ⟨p, c', hp, rfl, hfit, rfl⟩, ?_⟩
                rw [run_append h0 h1 hu hsz mo]
                simp only [appTail, if_pos hfit, Sem.run_bind, hn1, Result.andThen_ok, addr_add, Nat.add_assoc, g5, Sem.run_pure]
              · simp at e
            · rw [decide_eq_false hfit] at e; simp only [cond_false] at e
              cases hroom : roomA i.bytes (len + m) with
              | false => simp [hroom] at e
              | true =>
                simp only [hroom, cond_true] at e
                split at e
                · rename_i old hf
                  injection e with e; subst e
                  have hMn := hM h.n (Nat.le_refl _) (by rw [AH.push_n]; omega)
                  have hs : RV M (.slice id off len (.exact c')) (.slice (some ⟨p.blk, p.base + off, none⟩) len c') := ⟨p, c', hp, rfl, hlc, rfl⟩
                  obtain ⟨old', ho1, ho2⟩ := firstA_ok (P := P) hf hs Rd agree wf
                  have hol : old.length = len * i.size := firstA_length hf
                  obtain ⟨newCap, arr, hrun, hsize, hle, hrv, hlen⟩ := grown old len c' (by omega) hroom _ rfl hol ⟨old', ho1, ho2⟩ hMn
                  refine ⟨wf.push _, .push _ _, _, _, _, stpGrow _ (old ++ ns) arr (fun hc => OR.row (w := w.drew) Rd.big hc hlen) hrv hlen hMn, ⟨_, newCap, Mp.add_same _ _ _, rfl, hle, ?_⟩, hrun⟩
                  simp [capOk, hsize]
                · simp at e
          · -- a capacity that is not known
            rename_i id off len z
            obtain ⟨p, c, hp, rfl, hlc, hcap⟩ := hs
            simp only [capOk] at hcap
            by_cases hzz : z = i.size ∧ 0 < z
            · rw [decide_eq_true hzz] at e; simp only [cond_true] at e
              obtain ⟨rfl, hz0⟩ := hzz
              by_cases hm0 : m = 0
              · rw [decide_eq_true hm0] at e; simp only [cond_true, Option.some.injEq] at e; subst e; subst hm0
                refine ⟨wf, .refl _, M, w, .slice (some ⟨p.blk, p.base + off, none⟩) len c, Stp.same R h (fun id p hp => by rw [ovr_same agree]), ⟨p, c, hp, rfl, hlc, hcap⟩, ?_⟩
                rw [run_append h0 h1 hu hsz mo]
                obtain ⟨ns', hn1, hn2⟩ := mo.app w R
                have hnn : ns' = #[] := by
                  have h1 := mo.len
                  have h2 := hn2.length
                  rw [h1, Nat.zero_mul] at h2
                  apply Array.ext'; exact List.length_eq_zero_iff.1 h2.symm
                subst hnn
                simp only [appTail, Nat.add_zero, if_pos hlc, Sem.run_bind, hn1, Result.andThen_ok, storeCells, Sem.run_pure]
              · rw [decide_eq_false hm0] at e; simp only [cond_false] at e
                split at e
                · rename_i cs hg
                  have hlt := wf.lt hg
                  obtain ⟨o, hxx, ho⟩ := R.obj id p hp
                  rw [agree id hlt, hg] at hxx; injection hxx with hxx; subst hxx
                  obtain ⟨arr0, el0, fz0, g1, g2, g3, _, _⟩ := ho
                  by_cases hk : off + len * i.size + m * i.size ≤ cs.length
                  · rw [decide_eq_true hk] at e; simp only [cond_true] at e
                    have hfit : len + m ≤ c := by
                      have : (len + m) * i.size ≤ c * i.size := by rw [Nat.add_mul]; omega
                      exact Nat.le_of_mul_le_mul_right this hz0
                    split at e
                    · rename_i h2 hst
                      injection e with e; subst e
                      obtain ⟨ns', hn1, hn2⟩ := mo.app w R
                      obtain ⟨q1, q2, q3, w', q4, q5⟩ := storeCellsA_ok (P := P) hst hp hn2 R wf agree
                      refine ⟨q1, q2, M, w', .slice (some ⟨p.blk, p.base + off, none⟩) (len + m) c, ⟨.refl _, fun _ e _ => e, q4⟩, ⟨p, c, hp, rfl, hfit, hcap⟩, ?_⟩
                      rw [run_append h0 h1 hu hsz mo]
                      simp only [appTail, if_pos hfit, Sem.run_bind, hn1, Result.andThen_ok, addr_add, Nat.add_assoc, q5, Sem.run_pure]
                    · simp at e
                  · rw [decide_eq_false hk] at e; simp only [cond_false] at e
                    cases hro : (roomA i.bytes (len + m) && ns.all AV.one) with
                    | false => simp [hro] at e
                    | true =>
                      rw [hro] at e; simp only [cond_true] at e
                      simp only [Bool.and_eq_true] at hro
                      split at e
                      · rename_i old hcut
                        injection e with e; subst e
                        obtain ⟨hol, _, _⟩ := cut_length hcut
                        have hMn := hM h.n (Nat.le_refl _) (by rw [AH.push_n, AH.set_n]; omega)
                        have hnl := mo.len
                        by_cases hfit : len + m ≤ c
                        · obtain ⟨ns', hn1, hn2⟩ := mo.app w R
                          have hcm : (len + m) * i.size ≤ c * i.size := Nat.mul_le_mul_right _ hfit
                          rw [Nat.add_mul] at hcm
                          obtain ⟨w', hst, hrun⟩ := inPlace (P := P) (off := off) (T := fun _ => True) (mk := fun cs => .cells cs false) (by simp) (by simp) own_of own_mk R wf agree hp hg (.inr (by rw [hol]; exact hcut)) (by omega) hn2 hro.2 hMn
                          refine ⟨(wf.set hlt _).push _, (Ext.set _ _ _).trans (.push _ _), _, w', .slice (some ⟨p.blk, p.base + off, none⟩) (len + m) c, hst, ⟨_, c, Mp.add_same _ _ _, rfl, hfit, ?_⟩, ?_⟩
                          · simpa [capOk] using hcap
                          · rw [run_append h0 h1 hu hsz mo]
                            rw [hol] at hrun
                            simp only [appTail, if_pos hfit, Sem.run_bind, hn1, Result.andThen_ok, addr_add, hrun, Sem.run_pure]
                        · have hs : RV M (.slice id off len (.rest i.size)) (.slice (some ⟨p.blk, p.base + off, none⟩) len c) := ⟨p, c, hp, rfl, hlc, hcap⟩
                          obtain ⟨old', ho1, ho2⟩ := firstA_ok (P := P) (n := len) (zz := i.size) (cs := old) (h := h) (by simp [firstA, cellsAt, hg, hcut]) hs Rd agree wf
                          obtain ⟨newCap, arr, hrun, hsize, hle, hrv, hlen⟩ := grown old len c (by omega) hro.1 _ rfl hol ⟨old', ho1, ho2⟩ hMn
                          refine ⟨(wf.set hlt _).push _, (Ext.set _ _ _).trans (.push _ _), _, _, _, moved R wf agree hlt hrv hlen hMn (OR.row (w := w.drew) R.big (hrv.mono (Mp.le_add hMn)) hlen), ⟨_, newCap, Mp.add_same _ _ _, rfl, hle, ?_⟩, hrun⟩
                          simp [capOk, hsize]
                      · simp at e
                · -- bytes
                  rename_i e' cs hg
                  have hlt := wf.lt hg
                  obtain ⟨o, hxx, ho⟩ := R.obj id p hp
                  rw [agree id hlt, hg] at hxx; injection hxx with hxx; subst hxx
                  obtain ⟨arr0, g1, g2, g3, _, _⟩ := ho
                  cases hro : (decide (e' = el) && (roomA i.bytes (len + m) && ns.all AV.one)) with
                  | false => rw [hro] at e; simp at e
                  | true =>
                    rw [hro] at e; simp only [cond_true] at e
                    simp only [Bool.and_eq_true, decide_eq_true_eq] at hro
                    obtain ⟨he', hro⟩ := hro
                    subst he'
                    split at e
                    · rename_i old hcut
                      injection e with e; subst e
                      obtain ⟨hol, _, _⟩ := cut_length hcut
                      have hMn := hM h.n (Nat.le_refl _) (by rw [AH.push_n, AH.set_n]; omega)
                      have hnl := mo.len
                      by_cases hfit : len + m ≤ c
                      · obtain ⟨ns', hn1, hn2⟩ := mo.app w R
                        have hcm : (len + m) * i.size ≤ c * i.size := Nat.mul_le_mul_right _ hfit
                        rw [Nat.add_mul] at hcm
                        obtain ⟨w', hst, hrun⟩ := inPlace (P := P) (off := off) (T := fun t => t = e') (mk := fun cs => .byt e' cs) (by simp) (by simp) byt_of byt_mk R wf agree hp hg (.inr (by rw [hol]; exact hcut)) (by omega) hn2 hro.2 hMn
                        refine ⟨(wf.set hlt _).push _, (Ext.set _ _ _).trans (.push _ _), _, w', .slice (some ⟨p.blk, p.base + off, none⟩) (len + m) c, hst, ⟨_, c, Mp.add_same _ _ _, rfl, hfit, ?_⟩, ?_⟩
                        · simpa [capOk] using hcap
                        · rw [run_append h0 h1 hu hsz mo]
                          rw [hol] at hrun
                          simp only [appTail, if_pos hfit, Sem.run_bind, hn1, Result.andThen_ok, addr_add, hrun, Sem.run_pure]
                      · have hs : RV M (.slice id off len (.rest i.size)) (.slice (some ⟨p.blk, p.base + off, none⟩) len c) := ⟨p, c, hp, rfl, hlc, hcap⟩
                        obtain ⟨old', ho1, ho2⟩ := firstA_ok (P := P) (n := len) (zz := i.size) (cs := old) (h := h) (by simp [firstA, cellsAt, hg, hcut]) hs Rd agree wf
                        obtain ⟨newCap, arr, hrun, hsize, hle, hrv, hlen⟩ := grown old len c (by omega) hro.1 _ rfl hol ⟨old', ho1, ho2⟩ hMn
                        refine ⟨(wf.set hlt _).push _, (Ext.set _ _ _).trans (.push _ _), _, _, _, moved R wf agree hlt hrv hlen hMn (OR.rowByt (w := w.drew) R.big (hrv.mono (Mp.le_add hMn)) hlen), ⟨_, newCap, Mp.add_same _ _ _, rfl, hle, ?_⟩, hrun⟩
                        simp [capOk, hsize]
                    · simp at e
                · simp at e
            · rw [decide_eq_false hzz] at e; simp at e
          · -- an empty slice
            rename_i id off z
            obtain ⟨p, a, c, hp, rfl, hcap⟩ := hs
            by_cases hzz : z = i.size ∧ 0 < z
            · rw [decide_eq_true hzz] at e; simp only [cond_true] at e
              obtain ⟨rfl, hz0⟩ := hzz
              by_cases hm0 : m = 0
              · rw [decide_eq_true hm0] at e; simp only [cond_true, Option.some.injEq] at e; subst e; subst hm0
                refine ⟨wf, .refl _, M, w, .slice (some a) 0 c, Stp.same R h (fun id p hp => by rw [ovr_same agree]), ⟨p, a, c, hp, rfl, hcap⟩, ?_⟩
                rw [run_append h0 h1 hu hsz mo]
                obtain ⟨ns', hn1, hn2⟩ := mo.app w R
                have hnn : ns' = #[] := by
                  have h1 := mo.len
                  have h2 := hn2.length
                  rw [h1, Nat.zero_mul] at h2
                  apply Array.ext'; exact List.length_eq_zero_iff.1 h2.symm
                subst hnn
                simp only [appTail, Nat.add_zero, Nat.zero_le, if_true, Sem.run_bind, hn1, Result.andThen_ok, storeCells, Sem.run_pure]
              · rw [decide_eq_false hm0] at e; simp only [cond_false] at e
                split at e
                · rename_i cs hg
                  have hlt := wf.lt hg
                  cases hro : (roomA i.bytes m && ns.all AV.one) with
                  | false => simp [hro] at e
                  | true =>
                    rw [hro] at e; simp only [cond_true, Option.some.injEq] at e; subst e
                    simp only [Bool.and_eq_true] at hro
                    have hMn := hM h.n (Nat.le_refl _) (by rw [AH.push_n, AH.set_n]; omega)
                    have hnl := mo.len
                    by_cases hfit : 0 + m ≤ c
                    · obtain ⟨rfl, hcap2⟩ : a = ⟨p.blk, p.base + off, none⟩ ∧ p.base + off + c * i.size = p.tot := by
                        rcases hcap with hcap | hcap
                        · omega
                        · exact hcap
                      obtain ⟨ns', hn1, hn2⟩ := mo.app w R
                      have hcm : (0 + m) * i.size ≤ c * i.size := Nat.mul_le_mul_right _ hfit
                      rw [Nat.zero_add] at hcm
                      obtain ⟨w', hst, hrun⟩ := inPlace (P := P) (off := off) (old := []) (T := fun _ => True) (mk := fun cs => .cells cs false) (by simp) (by simp) own_of own_mk R wf agree hp hg (.inl rfl) (by simp only [List.length_nil]; omega) hn2 hro.2 hMn
                      refine ⟨(wf.set hlt _).push _, (Ext.set _ _ _).trans (.push _ _), _, w', .slice (some ⟨p.blk, p.base + off, none⟩) (0 + m) c, hst, ⟨_, c, Mp.add_same _ _ _, by rw [Nat.zero_add]; rfl, by omega, ?_⟩, ?_⟩
                      · simpa [capOk] using hcap2
                      · rw [run_append h0 h1 hu hsz mo]
                        simp only [List.length_nil] at hrun
                        simp only [appTail, if_pos hfit, Sem.run_bind, hn1, Result.andThen_ok, addr_add, Nat.zero_mul, hrun, Sem.run_pure]
                    · obtain ⟨newCap, arr, hrun, hsize, hle, hrv, hlen⟩ := grown [] 0 c (by omega) (by simpa using hro.1) (some a) rfl (by simp) ⟨#[], by simp [Builtin.firstCells, loadCells, loadCellsFrom], rfl⟩ hMn
                      simp only [List.nil_append, Nat.zero_add] at *
                      refine ⟨(wf.set hlt _).push _, (Ext.set _ _ _).trans (.push _ _), _, _, _, moved R wf agree hlt hrv hlen hMn (OR.row (w := w.drew) R.big (hrv.mono (Mp.le_add hMn)) hlen), ⟨_, newCap, Mp.add_same _ _ _, rfl, hle, ?_⟩, hrun⟩
                      simp [capOk, hsize]
                · simp at e
            · rw [decide_eq_false hzz] at e; simp at e
          · simp at e
      · simp at e
  · simp at e
end
end Go.Ai
