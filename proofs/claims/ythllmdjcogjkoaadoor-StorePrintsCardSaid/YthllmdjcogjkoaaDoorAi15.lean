/- A region that draws its order: what is written where, in the written order; which writers come in order. -/
import Derived.Test.YthllmdjcogjkoaaDoorAi14
namespace Go.Ai
set_option linter.unusedSimpArgs false
set_option linter.unusedVariables false
section
variable {P : Program} {inv : Inv} {ops : Array Oper} {st : Nat → St} {ws : Nat → List Nat} {ns : List Info} {ds : List (Nat × List Nat)}

def bare (h : AH) : AH := { h with pb := h.n, ws := [] }
structure RCtx (P : Program) (inv : Inv) (ops : Array Oper) (st : Nat → St) (ws : Nat → List Nat) (ns : List Info) (ds : List (Nat × List Nat)) : Prop where
  ok : InvOk P inv
  tr : Trace P inv ops st ws ns ds
  reg : regOk ops = true
  dok : dirtyOk ops (Region.before ops) ns ds = true
  wf0 : (st 0).h.WF

def bef (ops : Array Oper) (i j : Nat) : Prop := ((Region.before ops).getD j 0).testBit i = true
def Wr (ops : Array Oper) (st : Nat → St) (ws : Nat → List Nat) (id j : Nat) : Prop := j < ops.size ∧ (id ∈ ws j ∨ ((st j).h.n ≤ id ∧ id < (st (j + 1)).h.n))
def Wt (ops : Array Oper) (t j : Nat) : Prop := ∃ o, ops[j]? = some o ∧ o.dst = some t
def Good (W : Nat → Prop) (S : Nat → Prop) (p : Nat) : Prop := ∀ j, W j → (j < p ↔ S j)

theorem RCtx.regAt (C : RCtx P inv ops st ws ns ds) {j : Nat} {o : Oper} (ho : ops[j]? = some o) :
    (∀ e ∈ o.after, Region.binds .any e = true → e.on < j) ∧ (∀ c, o.op ≠ .defer c) ∧ (∀ i oi, i < j → ops[i]? = some oi → bef ops i j ∨ Oper.apart ops oi o = true) := by
  have hr := C.reg
  simp only [regOk, List.all_eq_true, List.mem_range] at hr
  have hj : j < ops.size := (Array.getElem?_eq_some_iff.1 ho).1
  have := hr j hj
  rw [ho] at this
  simp only [Bool.and_eq_true, List.all_eq_true, Bool.or_eq_true, Bool.not_eq_true', decide_eq_true_eq, List.mem_range] at this
  obtain ⟨⟨h1, h2⟩, h3⟩ := this
  refine ⟨fun e he hb => ?_, fun c hc => ?_, fun i oi hi hoi => ?_⟩
  · rcases h1 e (by simpa using he) with h | h
    · rw [hb] at h; cases h
    · exact h
  · rw [hc] at h2; cases h2
  · rcases h3 i hi with h | h
    · exact .inl h
    · rw [hoi] at h; exact .inr h

theorem RCtx.at (C : RCtx P inv ops st ws ns ds) {j : Nat} {o : Oper} (ho : ops[j]? = some o) : ∃ s1, stepA P (some 0) inv ops o { st j with h := bare (st j).h } = some s1 ∧ (st (j + 1)).tm = s1.tm ∧ (st (j + 1)).df = s1.df ∧
    (st (j + 1)).h.t = s1.h.t ∧ (st (j + 1)).h.n = s1.h.n ∧ ws j = s1.h.ws := by
  obtain ⟨s1, h1, h2, h3, h4, h5, _, _, h6⟩ := C.tr.step j o ho
  exact ⟨s1, h1, h2, h3, h4, h5, h6⟩
theorem RCtx.getOp (C : RCtx P inv ops st ws ns ds) {j : Nat} (hj : j < ops.size) : ∃ o, ops[j]? = some o := ⟨ops[j], Array.getElem?_eq_getElem hj⟩

theorem RCtx.wf (C : RCtx P inv ops st ws ns ds) : ∀ j, j ≤ ops.size → (st j).h.WF := by
  intro j
  induction j with
  | zero => intro _; exact C.wf0
  | succ j ih =>
    intro hj
    obtain ⟨o, ho⟩ := C.getOp (show j < ops.size by omega)
    obtain ⟨s1, h1, _, _, h4, h5, _⟩ := C.at ho
    have := (stepS C.ok h1 (C.regAt ho).2.1 (ih (by omega))).1
    intro id hid
    have h6 := this id (h5 ▸ hid)
    unfold AH.get at h6 ⊢
    rw [h4]; exact h6
/-- One step, of the written order. -/
theorem RCtx.one (C : RCtx P inv ops st ws ns ds) {j : Nat} {o : Oper} (ho : ops[j]? = some o) : (st j).h.n ≤ (st (j + 1)).h.n ∧ (∀ id, id < (st j).h.n → id ∉ ws j → (st (j + 1)).h.get id = (st j).h.get id) ∧ (∀ id, id ∈ ws j → id < (st j).h.n) ∧
    (∃ v, (st (j + 1)).tm = putA (st j).tm o.dst v) ∧ (st (j + 1)).df = (st j).df := by
  have hj : j < ops.size := (Array.getElem?_eq_some_iff.1 ho).1
  obtain ⟨s1, h1, h2, h3, h4, h5, h6⟩ := C.at ho
  obtain ⟨_, hx, hdf, v, htm, _⟩ := stepS C.ok h1 (C.regAt ho).2.1 (C.wf j (by omega))
  refine ⟨h5 ▸ hx.n, fun id hid hw => ?_, fun id hid => ?_, ⟨v, h2.trans htm⟩, h3.trans hdf⟩
  · have := hx.same id hid hid (h6 ▸ hw)
    unfold AH.get at this ⊢
    rw [h4]; exact this
  · rcases hx.new id (h6 ▸ hid) with h | h
    · cases h
    · exact h
theorem RCtx.mono (C : RCtx P inv ops st ws ns ds) : ∀ {q p : Nat}, p ≤ q → q ≤ ops.size → (st p).h.n ≤ (st q).h.n := by
  intro q
  induction q with
  | zero => intro p h _; have e : p = 0 := Nat.le_zero.1 h; subst e; exact Nat.le_refl _
  | succ q ih =>
    intro p h hq
    by_cases e : p = q + 1
    · subst e; exact Nat.le_refl _
    · obtain ⟨o, ho⟩ := C.getOp (show q < ops.size by omega)
      exact Nat.le_trans (ih (by omega) (by omega)) (C.one ho).1
theorem RCtx.df (C : RCtx P inv ops st ws ns ds) : ∀ {q : Nat}, q ≤ ops.size → (st q).df = (st 0).df := by
  intro q
  induction q with
  | zero => intro _; rfl
  | succ q ih =>
    intro hq
    obtain ⟨o, ho⟩ := C.getOp (show q < ops.size by omega)
    exact (C.one ho).2.2.2.2.trans (ih (by omega))
theorem putA_length (tm : List AV) (dst : Option Tmp) (v : AV) : (putA tm dst v).length = tm.length := by cases dst <;> simp [putA]
theorem RCtx.len (C : RCtx P inv ops st ws ns ds) : ∀ {q : Nat}, q ≤ ops.size → (st q).tm.length = (st 0).tm.length := by
  intro q
  induction q with
  | zero => intro _; rfl
  | succ q ih =>
    intro hq
    obtain ⟨o, ho⟩ := C.getOp (show q < ops.size by omega)
    obtain ⟨v, hv⟩ := (C.one ho).2.2.2.1
    rw [hv, putA_length]; exact ih (by omega)

/-- No writer between: the same cells. -/
theorem RCtx.chain (C : RCtx P inv ops st ws ns ds) {id : Nat} : ∀ {q p : Nat}, p ≤ q → q ≤ ops.size → (∀ j, p ≤ j → j < q → ¬ Wr ops st ws id j) → (st q).h.get id = (st p).h.get id := by
  intro q
  induction q with
  | zero => intro p h _ _; have e : p = 0 := Nat.le_zero.1 h; subst e; rfl
  | succ q ih =>
    intro p h hq hno
    by_cases e : p = q + 1
    · subst e; rfl
    · obtain ⟨o, ho⟩ := C.getOp (show q < ops.size by omega)
      rw [← ih (by omega) (by omega) fun j h1 h2 => hno j h1 (by omega)]
      have hn := hno q (by omega) (by omega)
      unfold Wr at hn
      have h1 : id ∉ ws q := fun h => hn ⟨by omega, .inl h⟩
      have h2 : ¬ ((st q).h.n ≤ id ∧ id < (st (q + 1)).h.n) := fun h => hn ⟨by omega, .inr h⟩
      by_cases h3 : id < (st q).h.n
      · exact (C.one ho).2.1 id h3 h1
      · rw [C.wf q (by omega) id (by omega), C.wf (q + 1) hq id (by omega)]
theorem RCtx.chainT (C : RCtx P inv ops st ws ns ds) {t : Nat} : ∀ {q p : Nat}, p ≤ q → q ≤ ops.size → (∀ j, p ≤ j → j < q → ¬ Wt ops t j) → (st q).tm.getD t undefA = (st p).tm.getD t undefA := by
  intro q
  induction q with
  | zero => intro p h _ _; have e : p = 0 := Nat.le_zero.1 h; subst e; rfl
  | succ q ih =>
    intro p h hq hno
    by_cases e : p = q + 1
    · subst e; rfl
    · obtain ⟨o, ho⟩ := C.getOp (show q < ops.size by omega)
      rw [← ih (by omega) (by omega) fun j h1 h2 => hno j h1 (by omega)]
      have hn := hno q (by omega) (by omega)
      obtain ⟨v, hv⟩ := (C.one ho).2.2.2.1
      rw [hv]
      cases hd : o.dst with
      | none => rfl
      | some d =>
        have : d ≠ t := fun e => hn ⟨o, ho, e ▸ hd⟩
        simp [putA, List.getD_eq_getElem?_getD, List.getElem?_set_ne this]

/-- What a light operation does to the heap. -/
theorem RCtx.light (C : RCtx P inv ops st ws ns ds) {j : Nat} {o : Oper} (ho : ops[j]? = some o) {l : List Nat} (hl : wantedA ops o (st j).tm = some false ∨ lightA (evalA (st j).tm) o.op = some l) :
    ws j = [] ∧ (pureOp o.op = true → (st (j + 1)).h.n = (st j).h.n) := by
  have hj : j < ops.size := (Array.getElem?_eq_some_iff.1 ho).1
  obtain ⟨s1, h1, _, _, h4, h5, h6⟩ := C.at ho
  obtain ⟨g1, g2, _⟩ := stepL h1 (C.regAt ho).2.1 (C.wf j (by omega)) hl
  refine ⟨?_, fun hp => ?_⟩
  · rw [h6]
    rcases g1 with g | ⟨ob, g⟩ <;> rw [g] <;> rfl
  · rw [h5, g2 hp]; rfl
theorem lightA_of_reads {ρ : Operand → Option AV} {op : Op} {l : List Nat} (h : readsA ρ op = some l) : ∃ l', lightA ρ op = some l' := by
  unfold lightA
  split
  · exact ⟨_, rfl⟩
  · exact ⟨l, h⟩

theorem dirtyOk_mem {b : Array Nat} : ∀ {ds : List (Nat × List Nat)} {d : Nat} {w : List Nat}, dirtyOk ops b ns ds = true → (d, w) ∈ ds →
    ∀ j, j < ops.size → j ≠ d → ordered b d j = true ∨ (∃ o, ops[j]? = some o ∧ pureOp o.op = true) ∨ besideOk j d w ns[j]? = true := by
  intro ds
  induction ds with
  | nil => intro d w _ h; cases h
  | cons x ds ih =>
    intro d w h hm j hj hne
    obtain ⟨d', w'⟩ := x
    simp only [dirtyOk, Bool.and_eq_true, List.all_eq_true, List.mem_range, Bool.or_eq_true, beq_iff_eq] at h
    rcases List.mem_cons.1 hm with e | hm
    · injection e with e1 e2; subst e1 e2
      have := h.1 j hj
      rw [Array.getElem?_eq_getElem hj] at this
      rcases this with ((h1 | h1) | h1) | h1
      · exact absurd h1 hne
      · exact .inl h1
      · exact .inr (.inl ⟨_, Array.getElem?_eq_getElem hj, h1⟩)
      · exact .inr (.inr h1)
    · exact ih h.2 hm j hj hne

/-- An operation that writes what was there, and another one. -/
theorem RCtx.beside (C : RCtx P inv ops st ws ns ds) {d j id : Nat} {o : Oper} (hd : d < ops.size) (hid : id ∈ ws d) (ho : ops[j]? = some o) (hne : j ≠ d) :
    (d < j ∧ bef ops d j) ∨ (j < d ∧ bef ops j d) ∨ pureOp o.op = true ∨ (∃ l, readsA (evalA (st j).tm) o.op = some l ∧ id ∉ l ∧ ¬ ((st j).h.n ≤ id ∧ id < (st (j + 1)).h.n)) ∨
      (readsA (evalA (st j).tm) o.op = none ∧ j < d ∧ (st (j + 1)).h.n ≤ id) := by
  have hj : j < ops.size := (Array.getElem?_eq_some_iff.1 ho).1
  have hmem := C.tr.dirty d _ (Array.getElem?_eq_getElem hd) (fun h => by rw [h] at hid; cases hid)
  rcases dirtyOk_mem C.dok hmem j hj hne with h | ⟨o', ho', h⟩ | h
  · unfold ordered at h
    by_cases hlt : d < j
    · rw [decide_eq_true hlt] at h; exact .inl ⟨hlt, h⟩
    · rw [decide_eq_false hlt] at h; exact .inr (.inl ⟨by omega, h⟩)
  · rw [ho] at ho'; injection ho' with ho'; subst ho'; exact .inr (.inr (.inl h))
  · rw [C.tr.info j o ho] at h
    cases hr : readsA (evalA (st j).tm) o.op with
    | some l =>
      rw [hr] at h
      simp only [besideOk, List.all_eq_true, Bool.and_eq_true, Bool.not_eq_true', Bool.or_eq_true, decide_eq_true_eq] at h
      have := h id hid
      refine .inr (.inr (.inr (.inl ⟨l, rfl, ?_, ?_⟩)))
      · intro hm; have h1 := this.1; simp at h1; exact h1 hm
      · omega
    | none =>
      rw [hr] at h
      simp only [besideOk, List.all_eq_true, Bool.and_eq_true, decide_eq_true_eq] at h
      exact .inr (.inr (.inr (.inr ⟨rfl, h.1, h.2 id hid⟩)))

/-- Two that write one block come in order. -/
theorem RCtx.conf (C : RCtx P inv ops st ws ns ds) {i d id : Nat} (hi : Wr ops st ws id i) (hd : Wr ops st ws id d) (hlt : i < d) : bef ops i d := by
  obtain ⟨hi1, hi2⟩ := hi
  obtain ⟨hd1, hd2⟩ := hd
  obtain ⟨oi, hoi⟩ := C.getOp hi1
  obtain ⟨od, hod⟩ := C.getOp hd1
  have nopure : ∀ {j : Nat} {o : Oper}, ops[j]? = some o → pureOp o.op = true → (id ∈ ws j ∨ ((st j).h.n ≤ id ∧ id < (st (j + 1)).h.n)) → False := by
    intro j o ho hp hw
    obtain ⟨h1, h2⟩ := C.light (l := []) ho (.inr (by simp [lightA, hp]))
    rcases hw with hw | hw
    · rw [h1] at hw; cases hw
    · rw [h2 hp] at hw; omega
  have noreads : ∀ {j : Nat} {o : Oper} {l : List Nat}, ops[j]? = some o → readsA (evalA (st j).tm) o.op = some l → id ∈ ws j → False := by
    intro j o l ho hp hw
    obtain ⟨l', hl'⟩ := lightA_of_reads hp
    obtain ⟨h1, h2⟩ := C.light ho (.inr hl')
    rw [h1] at hw; cases hw
  by_cases hdw : id ∈ ws d
  · rcases C.beside hd1 hdw hoi (by omega) with ⟨h, _⟩ | ⟨_, h⟩ | h | ⟨l, h, h1, h2⟩ | ⟨h, h1, h2⟩
    · omega
    · exact h
    · exact (nopure hoi h hi2).elim
    · rcases hi2 with hi2 | hi2
      · exact (noreads hoi h hi2).elim
      · exact absurd hi2 h2
    · rcases hi2 with hi2 | hi2
      · rcases C.beside hi1 hi2 hod (by omega) with ⟨_, h⟩ | ⟨h, _⟩ | h | ⟨l, h, h1, h2⟩ | ⟨h, h1, h2⟩
        · exact h
        · omega
        · exact (nopure hod h hd2).elim
        · exact (noreads hod h hdw).elim
        · omega
      · omega
  · have hd2 := hd2.resolve_left hdw
    have hm := C.mono (show i + 1 ≤ d by omega) (by omega)
    rcases hi2 with hi2 | hi2
    · have := (C.one hoi).2.2.1 id hi2
      have := (C.one hoi).1
      omega
    · omega
end
end Go.Ai
