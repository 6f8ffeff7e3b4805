/- The abstract machine and the model: what relates them; steps of memory. -/
import Derived.Test.YthllmdjcogjkoaaDoorAi3
import Derived.Laws.World
import Derived.Laws.Sem
namespace Go.Ai

def Mp.le (M M' : Mp) : Prop := (∀ id p, M id = some p → M' id = some p) ∧ (∀ b c, M.im b = some c → M'.im b = some c) ∧ M'.im0 = M.im0
theorem Mp.le.refl (M : Mp) : M.le M := ⟨fun _ _ h => h, fun _ _ h => h, rfl⟩
theorem Mp.le.trans {A B C : Mp} (h : A.le B) (k : B.le C) : A.le C := ⟨fun _ _ e => k.1 _ _ (h.1 _ _ e), fun _ _ e => k.2.1 _ _ (h.2.1 _ _ e), k.2.2.trans h.2.2⟩
theorem Mp.pure_le (M : Mp) : M.pure.le M := ⟨fun _ _ h => (by cases h), fun _ _ h => h, rfl⟩
theorem Mp.le.pure {A B : Mp} (h : A.le B) : A.pure.le B.pure := ⟨fun _ _ h => (by cases h), h.2.1, h.2.2⟩

mutual
theorem RV.mono {M M' : Mp} (h : M.le M') : ∀ (a : AV) (v : Value), RV M a v → RV M' a v
  | .bool _, _, e => e
  | .int _ _, _, e => e
  | .str _, _, e => e
  | .ptr _ _, _, ⟨p, hp, e⟩ => ⟨p, h.1 _ _ hp, e⟩
  | .nilptr, _, e => e
  | .slice _ _ _ _, _, ⟨p, c, hp, e⟩ => ⟨p, c, h.1 _ _ hp, e⟩
  | .nilslice, _, e => e
  | .empty _ _ _, _, ⟨p, a, c, hp, e⟩ => ⟨p, a, c, h.1 _ _ hp, e⟩
  | .map _, _, ⟨p, hp, e⟩ => ⟨p, h.1 _ _ hp, e⟩
  | .nilmap, _, e => e
  | .func _ xs ys, _, ⟨xs', ys', e, hx, hy⟩ => ⟨xs', ys', e, RVs.mono h xs _ hx, RVs.mono h ys _ hy⟩
  | .yieldf _, _, ⟨p, hp, e⟩ => ⟨p, h.1 _ _ hp, e⟩
  | .nilfunc, _, e => e
  | .iface _ x, _, ⟨x', e, hx⟩ => ⟨x', e, RV.mono h x _ hx⟩
  | .niliface, _, e => e
  | .agg cs, _, ⟨cs', e, hx⟩ => ⟨cs', e, RVs.mono h cs _ hx⟩
  | .tuple cs, _, ⟨cs', e, hx⟩ => ⟨cs', e, RVs.mono h cs _ hx⟩
  | .lst _ cs, _, ⟨a, c, e, hc, hx⟩ => ⟨a, c, e, hc, hx.imp id fun ⟨b, o, arr, e, hm, hl, hs⟩ => ⟨b, o, arr, e, h.2.1 _ _ hm, hl, RVs.mono h.pure cs _ hs⟩⟩
  | .ipt cs _, _, ⟨b, o, arr, e, hm, hl, hs⟩ => ⟨b, o, arr, e, h.2.1 _ _ hm, hl, RVs.mono h.pure cs _ hs⟩
  | .other, _, _ => trivial
theorem RVs.mono {M M' : Mp} (h : M.le M') : ∀ (as : List AV) (vs : List Value), RVs M as vs → RVs M' as vs
  | [], _, e => e
  | a :: as, _, ⟨v, rest, e, ha, hs⟩ => ⟨v, rest, e, RV.mono h a v ha, RVs.mono h as rest hs⟩
end

section lists
variable {M : Mp}
theorem RVs.nil : RVs M [] [] := rfl
theorem RVs.cons {a : AV} {v : Value} {as : List AV} {vs : List Value} (h : RV M a v) (hs : RVs M as vs) : RVs M (a :: as) (v :: vs) := ⟨v, vs, rfl, h, hs⟩
theorem RVs.cons_iff {a : AV} {v : Value} {as : List AV} {vs : List Value} : RVs M (a :: as) (v :: vs) ↔ RV M a v ∧ RVs M as vs :=
  ⟨fun ⟨v', r, e, ha, hs⟩ => by cases e; exact ⟨ha, hs⟩, fun ⟨a, b⟩ => .cons a b⟩
theorem RVs.length : ∀ {as : List AV} {vs : List Value}, RVs M as vs → as.length = vs.length
  | [], _, e => by cases e; rfl
  | _ :: as, _, ⟨v, rest, e, _, hs⟩ => by subst e; simp [RVs.length hs]
theorem RVs.get : ∀ {as : List AV} {vs : List Value}, RVs M as vs → ∀ {i : Nat} {a : AV}, as[i]? = some a → ∃ v, vs[i]? = some v ∧ RV M a v
  | [], _, _, i, a, h => by simp at h
  | a :: as, _, ⟨v, rest, e, ha, hs⟩, i, b, h => by
    subst e
    cases i with
    | zero => simp at h; subst h; exact ⟨v, rfl, ha⟩
    | succ i => simp at h; simpa using RVs.get hs h
theorem RVs.of_get : ∀ {as : List AV} {vs : List Value}, as.length = vs.length → (∀ (i : Nat) (a : AV) (v : Value), as[i]? = some a → vs[i]? = some v → RV M a v) → RVs M as vs
  | [], [], _, _ => rfl
  | [], _ :: _, h, _ => by simp at h
  | _ :: _, [], h, _ => by simp at h
  | a :: as, v :: vs, hl, h => .cons (h 0 a v rfl rfl) (RVs.of_get (by simpa using hl) fun i b u hb hu => h (i + 1) b u (by simpa using hb) (by simpa using hu))
theorem RVs.get' {as : List AV} {vs : List Value} (h : RVs M as vs) {i : Nat} {a : AV} {v : Value} (ha : as[i]? = some a) (hv : vs[i]? = some v) : RV M a v := by
  obtain ⟨v', h1, h2⟩ := h.get ha
  rw [hv] at h1; injection h1 with h1; subst h1; exact h2
theorem RVs.append {as bs : List AV} {vs us : List Value} (h : RVs M as vs) (k : RVs M bs us) : RVs M (as ++ bs) (vs ++ us) := by
  refine .of_get (by simp [h.length, k.length]) fun i a v ha hv => ?_
  by_cases hi : i < as.length
  · rw [List.getElem?_append_left hi] at ha
    rw [List.getElem?_append_left (h.length ▸ hi)] at hv
    exact h.get' ha hv
  · rw [List.getElem?_append_right (by omega)] at ha
    rw [List.getElem?_append_right (by rw [← h.length]; omega), ← h.length] at hv
    exact k.get' ha hv
theorem RVs.take {as : List AV} {vs : List Value} (h : RVs M as vs) (n : Nat) : RVs M (as.take n) (vs.take n) := by
  refine .of_get (by simp [h.length]) fun i a v ha hv => ?_
  rw [List.getElem?_take] at ha hv
  split at ha
  · rename_i hi; rw [if_pos hi] at hv; exact h.get' ha hv
  · simp at ha
theorem RVs.drop {as : List AV} {vs : List Value} (h : RVs M as vs) (n : Nat) : RVs M (as.drop n) (vs.drop n) := by
  refine .of_get (by simp [h.length]) fun i a v ha hv => ?_
  rw [List.getElem?_drop] at ha hv
  exact h.get' ha hv
theorem RVs.set {as : List AV} {vs : List Value} (h : RVs M as vs) (i : Nat) {a : AV} {v : Value} (hv : RV M a v) : RVs M (as.set i a) (vs.set i v) := by
  refine .of_get (by simp [h.length]) fun j b u hb hu => ?_
  rw [List.getElem?_set] at hb hu
  by_cases hij : i = j
  · rw [if_pos hij] at hb hu
    split at hb
    · rename_i hl; rw [if_pos (by rw [← h.length]; exact hl)] at hu; injection hb with hb; injection hu with hu; subst hb hu; exact hv
    · simp at hb
  · rw [if_neg hij] at hb hu; exact h.get' hb hu
theorem RVs.getD {as : List AV} {vs : List Value} (h : RVs M as vs) (i : Nat) : RV M (as.getD i undefA) (vs.getD i undef) := by
  rw [List.getD_eq_getElem?_getD, List.getD_eq_getElem?_getD]
  by_cases hi : i < as.length
  · obtain ⟨v, h1, h2⟩ := h.get (List.getElem?_eq_getElem hi)
    rw [h1, List.getElem?_eq_getElem hi]
    exact h2
  · rw [List.getElem?_eq_none (by omega), List.getElem?_eq_none (by rw [← h.length]; omega)]
    exact ⟨#[], rfl, rfl⟩
theorem RVs.replicate (n : Nat) {a : AV} {v : Value} (h : RV M a v) : RVs M (List.replicate n a) (List.replicate n v) := by
  induction n with
  | zero => rfl
  | succ n ih => exact .cons h ih
theorem RV.undef : RV M undefA undef := ⟨#[], rfl, rfl⟩
end lists

theorem RV.box {M : Mp} {a : AV} {v : Value} {cs : List AV} (h : RV M a v) (hb : a.box = some cs) : RVs M cs v.cells.toList := by
  cases a <;> simp only [AV.box, Option.some.injEq, reduceCtorEq] at hb <;> subst hb
  case agg => obtain ⟨cs', rfl, h⟩ := h; exact h
  case ptr => obtain ⟨p, hp, rfl⟩ := h; exact .cons ⟨p, hp, rfl⟩ .nil
  case slice => obtain ⟨p, c, hp, rfl, h1, h2⟩ := h; exact .cons ⟨p, c, hp, rfl, h1, h2⟩ .nil
  case empty => obtain ⟨p, a, c, hp, rfl, h1⟩ := h; exact .cons ⟨p, a, c, hp, rfl, h1⟩ .nil
  case map => obtain ⟨p, hp, rfl⟩ := h; exact .cons ⟨p, hp, rfl⟩ .nil
  case func => obtain ⟨xs', ys', rfl, h1, h2⟩ := h; exact .cons ⟨xs', ys', rfl, h1, h2⟩ .nil
  case yieldf => obtain ⟨p, hp, rfl⟩ := h; exact .cons ⟨p, hp, rfl⟩ .nil
  case iface => obtain ⟨x, rfl, h1⟩ := h; exact .cons ⟨x, rfl, h1⟩ .nil
  case lst => obtain ⟨a, c, rfl, h1⟩ := h; exact .cons ⟨a, c, rfl, h1⟩ .nil
  case ipt => obtain ⟨b, o, arr, rfl, h1⟩ := h; exact .cons ⟨b, o, arr, rfl, h1⟩ .nil
  all_goals (cases h; exact .cons rfl .nil)
theorem RV.one {M : Mp} {a : AV} {v : Value} (h : RV M a v) (ho : a.one = true) : v.oneCell' = true := by
  cases a <;> simp only [AV.one, Bool.false_eq_true] at ho
  case ptr => obtain ⟨p, hp, rfl⟩ := h; rfl
  case slice => obtain ⟨p, c, hp, rfl, h1, h2⟩ := h; rfl
  case empty => obtain ⟨p, a, c, hp, rfl, h1⟩ := h; rfl
  case map => obtain ⟨p, hp, rfl⟩ := h; rfl
  case func => obtain ⟨xs', ys', rfl, h1, h2⟩ := h; rfl
  case yieldf => obtain ⟨p, hp, rfl⟩ := h; rfl
  case iface => obtain ⟨x, rfl, h1⟩ := h; rfl
  case lst => obtain ⟨a, c, rfl, h1⟩ := h; rfl
  case ipt => obtain ⟨b, o, arr, rfl, h1⟩ := h; rfl
  all_goals (cases h; rfl)

/-- A constant reads as itself, whatever the map. -/
theorem ofVal_ok (M : Mp) : ∀ (d : Nat) (v : Value) (a : AV), ofVal d v = some a → RV M a v := by
  have hm : ∀ (d : Nat), (∀ (v : Value) (a : AV), ofVal d v = some a → RV M a v) → ∀ (vs : List Value) (as : List AV), vs.mapM (ofVal d) = some as → RVs M as vs := by
    intro d ih vs
    induction vs with
    | nil => intro as h; simp at h; subst h; rfl
    | cons v vs ihv =>
      intro as h
      simp only [List.mapM_cons, Option.bind_eq_bind, Option.bind_eq_some_iff, Option.pure_def, Option.some.injEq] at h
      obtain ⟨a, ha, as', has, rfl⟩ := h
      exact .cons (ih _ _ ha) (ihv _ has)
  intro d
  induction d with
  | zero =>
    intro v a h
    cases v with
    | slice x l c => cases x <;> (try (simp [ofVal] at h; done)); cases l <;> cases c <;> simp [ofVal] at h; subst h; rfl
    | pointer x => cases x <;> simp [ofVal] at h; subst h; rfl
    | map x => cases x <;> simp [ofVal] at h; subst h; rfl
    | func f xs ys =>
      cases f <;> simp [ofVal] at h
      obtain ⟨⟨h1, h2⟩, h3⟩ := h
      subst h3; exact ⟨xs, ys, rfl, by simp [h1, RVs], by simp [h2, RVs]⟩
    | _ => simp [ofVal] at h <;> subst h <;> rfl
  | succ d ih =>
    intro v a h
    cases v with
    | slice x l c => cases x <;> (try (simp [ofVal] at h; done)); cases l <;> cases c <;> simp [ofVal] at h; subst h; rfl
    | pointer x => cases x <;> simp [ofVal] at h; subst h; rfl
    | map x => cases x <;> simp [ofVal] at h; subst h; rfl
    | func f xs ys =>
      cases f <;> simp [ofVal] at h
      obtain ⟨⟨h1, h2⟩, h3⟩ := h
      subst h3; exact ⟨xs, ys, rfl, by simp [h1, RVs], by simp [h2, RVs]⟩
    | iface t x =>
      simp only [ofVal, Option.map_eq_some_iff] at h
      obtain ⟨y, hy, rfl⟩ := h
      exact ⟨x, rfl, ih _ _ hy⟩
    | agg cs =>
      simp only [ofVal, Option.map_eq_some_iff] at h
      obtain ⟨y, hy, rfl⟩ := h
      exact ⟨cs, rfl, hm d ih _ _ hy⟩
    | _ => simp [ofVal] at h <;> subst h <;> rfl

/-! ### What relates a heap and a world -/
def REs (M : Mp) : List (AV × AV × Nat) → List MapEntry → Prop
  | [], es => es = []
  | (k, v, b) :: as, es => ∃ e rest, es = e :: rest ∧ RV M k e.key ∧ RV M v e.val ∧ e.born = b ∧ REs M as rest

def OR (B : Nat) (M : Mp) (p : Pt) (w : World) : AO → Prop
  | .cells cs ro => ∃ arr e fz, w.heap[p.blk]? = some (.cells arr e fz) ∧ p.tot = arr.size ∧ p.base + cs.length ≤ arr.size ∧ RVs M cs ((arr.toList.drop p.base).take cs.length) ∧ (ro = true ∨ (fz = (0, 0) ∧ B ≤ p.blk))
  | .byt e cs => ∃ arr, w.heap[p.blk]? = some (.cells arr e (0, 0)) ∧ p.tot = arr.size ∧ p.base + cs.length ≤ arr.size ∧ RVs M cs ((arr.toList.drop p.base).take cs.length) ∧ B ≤ p.blk
  | .var e cs => p.base = 0 ∧ p.tot = cs.length ∧ ∃ arr, w.heap[p.blk]? = some (.cells arr e (0, 0)) ∧ RVs M cs arr.toList ∧ B ≤ p.blk
  | .gone => True
  | .map es c => ∃ es', w.heap[p.blk]? = some (.map es' c) ∧ REs M es es'.toList ∧ B ≤ p.blk
  | .iter _ _ => False
  | .loop st pend tm ps a b => ∃ L, w.heap[p.blk]? = some (.loop L) ∧ L.state = st ∧ L.pending = pend ∧ RVs M tm L.tmps.toList ∧ L.params.toList = ps ∧ L.assign = a ∧ L.body = b ∧ B ≤ p.blk ∧ codeOk a = true ∧ codeOk b = true
  | .dfr => w.heap[p.blk]? = some (.deferred (some [])) ∧ B ≤ p.blk

theorem REs.mono {M M' : Mp} (h : M.le M') : ∀ (as : List (AV × AV × Nat)) (es : List MapEntry), REs M as es → REs M' as es
  | [], _, e => e
  | (_, _, _) :: as, _, ⟨e, rest, he, hk, hv, hb, hr⟩ => ⟨e, rest, he, RV.mono h _ _ hk, RV.mono h _ _ hv, hb, REs.mono h as rest hr⟩

theorem OR.mono {B : Nat} {M M' : Mp} (h : M.le M') {p : Pt} {w : World} {o : AO} (ho : OR B M p w o) : OR B M' p w o := by
  cases o with
  | cells cs ro => obtain ⟨arr, e, fz, h1, h2, h3, h4, h5⟩ := ho; exact ⟨arr, e, fz, h1, h2, h3, RVs.mono h _ _ h4, h5⟩
  | byt e cs => obtain ⟨arr, h1, h2, h3, h4, h5⟩ := ho; exact ⟨arr, h1, h2, h3, RVs.mono h _ _ h4, h5⟩
  | var e cs => obtain ⟨h1, h2, arr, h3, h4, h5⟩ := ho; exact ⟨h1, h2, arr, h3, RVs.mono h _ _ h4, h5⟩
  | gone => trivial
  | map es c => obtain ⟨es', h1, h2, h3⟩ := ho; exact ⟨es', h1, REs.mono h _ _ h2, h3⟩
  | iter s p => exact ho
  | loop st pend tm ps a b => obtain ⟨L, h1, h2, h3, h4, h5⟩ := ho; exact ⟨L, h1, h2, h3, RVs.mono h _ _ h4, h5⟩
  | dfr => exact ho

/-- The block is the same: so is what is told of it. -/
theorem OR.heap {B : Nat} {M : Mp} {p : Pt} {w w' : World} {o : AO} (hg : o ≠ .gone → w'.heap[p.blk]? = w.heap[p.blk]?) (ho : OR B M p w o) : OR B M p w' o := by
  cases o with
  | gone => trivial
  | iter _ _ => exact ho.elim
  | _ => have h := hg (by simp); simp only [OR] at ho ⊢; rw [h]; exact ho

/-- It lies in a block that is there. -/
theorem OR.lt {B : Nat} {M : Mp} {p : Pt} {w : World} {o : AO} (hg : o ≠ .gone) (ho : OR B M p w o) : p.blk < w.heap.size := by
  cases o with
  | cells cs ro => obtain ⟨arr, e, fz, h1, _⟩ := ho; exact (Array.getElem?_eq_some_iff.1 h1).1
  | byt e cs => obtain ⟨arr, h1, _⟩ := ho; exact (Array.getElem?_eq_some_iff.1 h1).1
  | var e cs => obtain ⟨_, _, arr, h1, _⟩ := ho; exact (Array.getElem?_eq_some_iff.1 h1).1
  | gone => exact absurd rfl hg
  | map es c => obtain ⟨es', h1, _⟩ := ho; exact (Array.getElem?_eq_some_iff.1 h1).1
  | iter s p => exact ho.elim
  | loop st pend tm ps a b => obtain ⟨L, h1, _⟩ := ho; exact (Array.getElem?_eq_some_iff.1 h1).1
  | dfr => exact (Array.getElem?_eq_some_iff.1 ho.1).1

structure Rel (B : Nat) (w0 : World) (M : Mp) (X : Nat → Option AO) (w : World) : Prop where
  below : Go.RowKit.Below B w0 w
  big : B ≤ w.heap.size
  obj : ∀ id p, M id = some p → ∃ o, X id = some o ∧ OR B M p w o
  sep : ∀ i j p q, M i = some p → M j = some q → i ≠ j → p.blk = q.blk → X i = some .gone ∨ X j = some .gone
  im : ∀ b arr, M.im b = some arr → (∃ e fz, w.heap[b]? = some (.cells arr e fz)) ∧ ∀ id p, M id = some p → p.blk = b → X id = some .gone ∨ ∃ cs, X id = some (.cells cs true)
  im0 : ∀ b arr, M.im b = some arr → b < B → M.im0 b = some arr

section rel
variable {B : Nat} {w0 w : World} {M : Mp} {X : Nat → Option AO}

theorem Rel.congr {Y : Nat → Option AO} (h : Rel B w0 M X w) (e : ∀ id p, M id = some p → Y id = X id) : Rel B w0 M Y w where
  below := h.below
  big := h.big
  obj := fun id p hp => let ⟨o, h1, h2⟩ := h.obj id p hp; ⟨o, (e id p hp).trans h1, h2⟩
  sep := fun i j p q hi hj hne hb => by rw [e i p hi, e j q hj]; exact h.sep i j p q hi hj hne hb
  im := fun b arr hb => ⟨(h.im b arr hb).1, fun id p hp hb' => by rw [e id p hp]; exact (h.im b arr hb).2 id p hp hb'⟩
  im0 := h.im0
theorem Rel.drew (h : Rel B w0 M X w) : Rel B w0 M X w.drew where
  below := h.below.drew
  big := h.big
  obj := fun id p hp => let ⟨o, h1, h2⟩ := h.obj id p hp; ⟨o, h1, OR.heap (fun _ => rfl) h2⟩
  sep := h.sep
  im := h.im
  im0 := h.im0

def Mp.add (M : Mp) (n : Nat) (p : Pt) : Mp := ⟨fun id => if id = n then some p else M id, M.im, M.im0⟩
theorem Mp.add_at (M : Mp) (n : Nat) (p : Pt) (id : Nat) : (M.add n p) id = if id = n then some p else M id := rfl
theorem Mp.le_add {M : Mp} {n : Nat} {p : Pt} (h : M n = none) : M.le (M.add n p) := ⟨fun id q hq => by
  rw [Mp.add_at]
  split
  · rename_i e; rw [e, h] at hq; cases hq
  · exact hq, fun _ _ h => h, rfl⟩
theorem Mp.add_same (M : Mp) (n : Nat) (p : Pt) : M.add n p n = some p := by simp [Mp.add]

/-- A new block, and a new number for it. -/
theorem Rel.alloc (h : Rel B w0 M X w) {n : Nat} (hn : M n = none) {o : AO} {obj : Obj} {p : Pt} (hp : p.blk = w.heap.size)
    (ho : OR B (M.add n p) p (w.alloc obj) o) : Rel B w0 (M.add n p) (fun id => if id = n then some o else X id) (w.alloc obj) where
  below := h.below.alloc h.big obj
  big := by have := h.big; simp only [World.alloc, Array.size_push]; omega
  obj := fun id q hq => by
    rw [Mp.add_at] at hq
    by_cases e : id = n
    · simp only [e, if_true, Option.some.injEq] at hq ⊢
      subst hq
      exact ⟨o, rfl, ho⟩
    · simp only [e, if_false] at hq ⊢
      obtain ⟨o', h1, h2⟩ := h.obj id q hq
      refine ⟨o', h1, OR.mono (Mp.le_add hn) (OR.heap (fun hg => ?_) h2)⟩
      exact Go.RowKit.Below.heap_alloc _ _ _ (h2.lt hg)
  sep := fun i j q r hi hj hne hb => by
    rw [Mp.add_at] at hi hj
    by_cases ei : i = n
    · have ej : ¬ j = n := fun e => hne (ei.trans e.symm)
      simp only [ei, if_true, Option.some.injEq, ej, if_false] at hi hj ⊢
      subst hi
      obtain ⟨o', h1, h2⟩ := h.obj j r hj
      by_cases hg : o' = .gone
      · exact .inr (hg ▸ h1)
      · have := h2.lt hg; omega
    · by_cases ej : j = n
      · simp only [ei, if_false, ej, if_true, Option.some.injEq] at hi hj ⊢
        subst hj
        obtain ⟨o', h1, h2⟩ := h.obj i q hi
        by_cases hg : o' = .gone
        · exact .inl (hg ▸ h1)
        · have := h2.lt hg; omega
      · simp only [ei, ej, if_false] at hi hj ⊢
        exact h.sep i j q r hi hj hne hb
  im0 := h.im0
  im := fun b arr hb => by
    obtain ⟨⟨e, fz, h1⟩, h2⟩ := h.im b arr hb
    have hlt : b < w.heap.size := (Array.getElem?_eq_some_iff.1 h1).1
    refine ⟨⟨e, fz, by rw [Go.RowKit.Below.heap_alloc _ _ _ hlt]; exact h1⟩, fun id q hq hbq => ?_⟩
    rw [Mp.add_at] at hq
    by_cases e : id = n
    · simp only [e, if_true, Option.some.injEq] at hq
      subst hq; omega
    · simp only [e, if_false] at hq ⊢
      exact h2 id q hq hbq

/-- A block is written anew. -/
theorem Rel.put (h : Rel B w0 M X w) {id : Nat} {p : Pt} (hp : M id = some p) {o0 o : AO} (hx : X id = some o0) (h0 : o0 ≠ .gone) (h00 : ∀ cs, o0 ≠ .cells cs true) (hB : B ≤ p.blk) {obj : Obj}
    (ho : OR B M p (w.putObj p.blk obj) o) : Rel B w0 M (fun j => if j = id then some o else X j) (w.putObj p.blk obj) where
  below := ⟨h.below.os, h.below.tape, h.below.output, by rw [World.putObj_size]; exact h.below.size, fun k hk => by
    rw [World.putObj_heap_other (by omega)]; exact h.below.block k hk⟩
  big := by rw [World.putObj_size]; exact h.big
  obj := fun j q hq => by
    by_cases e : j = id
    · subst e
      rw [hp] at hq; injection hq with hq; subst hq
      simp only [if_true]
      exact ⟨o, rfl, ho⟩
    · simp only [e, if_false]
      obtain ⟨o', h1, h2⟩ := h.obj j q hq
      refine ⟨o', h1, OR.heap (fun hg => ?_) h2⟩
      refine World.putObj_heap_other (fun eb => ?_)
      rcases h.sep j id q p hq hp e eb with h3 | h3
      · rw [h1] at h3; injection h3 with h3; exact hg h3
      · rw [hx] at h3; injection h3 with h3; exact h0 h3
  sep := fun i j q r hi hj hne hb => by
    by_cases ei : i = id
    · have ej : ¬ j = id := fun e => hne (ei.trans e.symm)
      subst ei
      simp only [ej, if_false]
      rcases h.sep i j q r hi hj hne hb with h3 | h3
      · rw [hx] at h3; injection h3 with h3; exact absurd h3 h0
      · exact .inr h3
    · by_cases ej : j = id
      · subst ej
        simp only [ei, if_false]
        rcases h.sep i j q r hi hj hne hb with h3 | h3
        · exact .inl h3
        · rw [hx] at h3; injection h3 with h3; exact absurd h3 h0
      · simp only [ei, ej, if_false]
        exact h.sep i j q r hi hj hne hb
  im0 := h.im0
  im := fun b arr hb => by
    obtain ⟨⟨e, fz, h1⟩, h2⟩ := h.im b arr hb
    have hne : b ≠ p.blk := fun hh => by
      rcases h2 id p hp hh.symm with h3 | ⟨cs, h3⟩ <;> (rw [hx] at h3; injection h3 with h3)
      · exact h0 h3
      · exact h00 _ h3
    refine ⟨⟨e, fz, by rw [World.putObj_heap_other hne]; exact h1⟩, fun j q hq hbq => ?_⟩
    by_cases e : j = id
    · subst e; rw [hp] at hq; injection hq with hq; subst hq; exact absurd hbq.symm hne
    · simp only [e, if_false]; exact h2 j q hq hbq
/-- A number is given up. -/
theorem Rel.kill (h : Rel B w0 M X w) (id : Nat) : Rel B w0 M (fun j => if j = id then some .gone else X j) w where
  below := h.below
  big := h.big
  obj := fun j q hq => by
    by_cases e : j = id
    · simp only [e, if_true]; exact ⟨.gone, rfl, trivial⟩
    · simp only [e, if_false]; exact h.obj j q hq
  sep := fun i j q r hi hj hne hb => by
    by_cases ei : i = id
    · simp [ei]
    · by_cases ej : j = id
      · simp [ej]
      · simp only [ei, ej, if_false]; exact h.sep i j q r hi hj hne hb
  im0 := h.im0
  im := fun b arr hb => ⟨(h.im b arr hb).1, fun j q hq hbq => by
    by_cases e : j = id
    · simp [e]
    · simp only [e, if_false]; exact (h.im b arr hb).2 j q hq hbq⟩
/-- A second number for the block of one that is given up. -/
theorem Rel.again (h : Rel B w0 M X w) {n id : Nat} (hn : M n = none) {p q : Pt} (hid : M id = some p) {o0 : AO} (hx : X id = some o0) (h0 : o0 ≠ .gone) (h00 : ∀ cs, o0 ≠ .cells cs true) (hq : q.blk = p.blk) {o : AO} {obj : Obj} (hB : B ≤ p.blk)
    (ho : OR B (M.add n q) q (w.putObj p.blk obj) o) : Rel B w0 (M.add n q) (fun j => if j = n then some o else if j = id then some .gone else X j) (w.putObj p.blk obj) where
  below := ⟨h.below.os, h.below.tape, h.below.output, by rw [World.putObj_size]; exact h.below.size, fun k hk => by
    rw [World.putObj_heap_other (by omega)]; exact h.below.block k hk⟩
  big := by rw [World.putObj_size]; exact h.big
  obj := fun j r hr => by
    rw [Mp.add_at] at hr
    by_cases e : j = n
    · simp only [e, if_true, Option.some.injEq] at hr ⊢
      subst hr; exact ⟨o, rfl, ho⟩
    · simp only [e, if_false] at hr ⊢
      by_cases e2 : j = id
      · simp only [e2, if_true]; exact ⟨.gone, rfl, trivial⟩
      · simp only [e2, if_false]
        obtain ⟨o', h1, h2⟩ := h.obj j r hr
        refine ⟨o', h1, OR.mono (Mp.le_add hn) (OR.heap (fun hg => World.putObj_heap_other (fun eb => ?_)) h2)⟩
        rcases h.sep j id r p hr hid e2 eb with h3 | h3
        · rw [h1] at h3; injection h3 with h3; exact hg h3
        · rw [hx] at h3; injection h3 with h3; exact h0 h3
  sep := fun i j r s hi hj hne hb => by
    rw [Mp.add_at] at hi hj
    have key : ∀ k t, k ≠ n → M k = some t → t.blk = q.blk → (if k = id then some AO.gone else X k) = some .gone := by
      intro k t hk hkt hb
      by_cases e2 : k = id
      · simp [e2]
      · simp only [e2, if_false]
        rcases h.sep k id t p hkt hid e2 (hb.trans hq) with h3 | h3
        · exact h3
        · rw [hx] at h3; injection h3 with h3; exact absurd h3 h0
    by_cases ei : i = n
    · have ej : ¬ j = n := fun e => hne (ei.trans e.symm)
      simp only [ei, if_true, Option.some.injEq, ej, if_false] at hi hj ⊢
      subst hi
      exact .inr (key j s ej hj hb.symm)
    · by_cases ej : j = n
      · simp only [ei, if_false, ej, if_true, Option.some.injEq] at hi hj ⊢
        subst hj
        exact .inl (key i r ei hi hb)
      · simp only [ei, ej, if_false] at hi hj ⊢
        by_cases e1 : i = id
        · simp [e1]
        · by_cases e2 : j = id
          · simp [e2]
          · simp only [e1, e2, if_false]; exact h.sep i j r s hi hj hne hb
  im0 := h.im0
  im := fun b arr hb => by
    obtain ⟨⟨e, fz, h1⟩, h2⟩ := h.im b arr hb
    have hne : b ≠ p.blk := fun hh => by
      rcases h2 id p hid hh.symm with h3 | ⟨cs, h3⟩ <;> (rw [hx] at h3; injection h3 with h3)
      · exact h0 h3
      · exact h00 _ h3
    refine ⟨⟨e, fz, by rw [World.putObj_heap_other hne]; exact h1⟩, fun j r hr hbr => ?_⟩
    rw [Mp.add_at] at hr
    by_cases e : j = n
    · simp only [e, if_true, Option.some.injEq] at hr
      subst hr; exact absurd (hbr.symm.trans hq) hne
    · simp only [e, if_false] at hr ⊢
      by_cases e2 : j = id
      · simp [e2]
      · simp only [e2, if_false]; exact h2 j r hr hbr
end rel
end Go.Ai
