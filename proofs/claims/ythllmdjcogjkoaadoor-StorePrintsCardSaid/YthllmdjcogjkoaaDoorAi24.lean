/- Contracts without a heap: what they come to in any heap. -/
import Derived.Test.YthllmdjcogjkoaaDoorAi23
namespace Go.Ai
set_option linter.unusedSimpArgs false
set_option linter.unusedVariables false

def pushes : AH → List (List AV) → AH
  | h, [] => h
  | h, cs :: os => pushes (h.push (.cells cs false)) os
theorem pushes_n : ∀ (os : List (List AV)) (h : AH), (pushes h os).n = h.n + os.length
  | [], h => rfl
  | cs :: os, h => by simp only [pushes, pushes_n os, AH.push_n, List.length_cons]; omega
theorem pushes_wf : ∀ (os : List (List AV)) {h : AH}, h.WF → (pushes h os).WF
  | [], h, wf => wf
  | cs :: os, h, wf => pushes_wf os (wf.push _)
theorem pushes_ext : ∀ (os : List (List AV)) (h : AH), Ext h (pushes h os)
  | [], h => .refl _
  | cs :: os, h => (Ext.push h _).trans (pushes_ext os _)
theorem pushes_old : ∀ (os : List (List AV)) (h : AH) (id : Nat), id < h.n → (pushes h os).get id = h.get id
  | [], h, id, hid => rfl
  | cs :: os, h, id, hid => by
    simp only [pushes]
    rw [pushes_old os _ id (by rw [AH.push_n]; omega), AH.get_push, if_neg (by omega)]
theorem pushes_new : ∀ (os : List (List AV)) (h : AH) (j : Nat) (cs : List AV), os[j]? = some cs → (pushes h os).get (h.n + j) = some (.cells cs false)
  | [], h, j, cs, e => by simp at e
  | c :: os, h, j, cs, e => by
    simp only [pushes]
    cases j with
    | zero =>
      simp only [List.getElem?_cons_zero, Option.some.injEq] at e; subst e
      rw [pushes_old os _ _ (by rw [AH.push_n]; omega), AH.get_push, if_pos (by omega)]
    | succ j =>
      simp only [List.getElem?_cons_succ] at e
      have := pushes_new os (h.push (.cells c false)) j cs e
      rw [AH.push_n] at this
      rw [show h.n + (j + 1) = h.n + 1 + j by omega]; exact this

def ocells (os : List (List AV)) : Nat → Option AO := fun id => (os[id]?).map fun cs => .cells cs false
def ImOk (im : Nat → Option (Array Value)) (w : World) : Prop := ∀ b arr, im b = some arr → ∃ e fz, w.heap[b]? = some (.cells arr e fz)

/-- Called with data that stays, a function answers r; os: the blocks that it made for it. -/
structure Fun (P : Program) (f : FuncId) (ds : List AV) (r : AV) (os : List (List AV)) : Prop where
  fn : Enters P f
  idf : ∀ cs ∈ os, idfs cs = true
  call : ∀ (n : Nat) (w : World) (im : Nat → Option (Array Value)) (args' : Array Value), RVs ⟨fun _ => none, im, im⟩ ds args'.toList → ImOk im w →
    CallsIn (fen none) n P f args' w fun e w' => ∃ v M', e = .returned v ∧ Rel w.heap.size w M' (ocells os) w' ∧ RV M' r v ∧ (∀ b arr, im b = some arr → M'.im b = some arr) ∧
      (∀ b arr, M'.im b = some arr → im b = some arr ∨ w.heap.size ≤ b) ∧ (∀ id, os.length ≤ id → M' id = none)

section
variable {P : Program} {f : FuncId} {ds : List AV} {r : AV} {os : List (List AV)} {h : AH}

/-- What comes of a call in the caller's heap. -/
theorem fun_stp {B : Nat} {w0 w w' : World} {M M' : Mp} {X : Nat → Option AO} {imF : Nat → Option (Array Value)} (R : Rel B w0 M X w) (agree : ∀ id, id < h.n → X id = h.get id)
    (hM : ∀ id, h.n ≤ id → id < (pushes h os).n → M id = none) (R' : Rel w.heap.size w M' (ocells os) w') (hdom : ∀ id, os.length ≤ id → M' id = none)
    (hi1 : ∀ b arr, imF b = some arr → (∃ e fz, w'.heap[b]? = some (.cells arr e fz)) ∧ (M.im b = some arr ∨ w.heap.size ≤ b))
    (hi2 : ∀ j p arr, M' j = some p → imF p.blk ≠ some arr) (hi3 : ∀ b arr, M.im b = some arr → imF b = some arr)
    (hcs : ∀ cs ∈ os, ∀ vs, RVs M' cs vs → RVs (⟨fun _ => none, imF, M.im0⟩ : Mp) cs vs) :
    Stp B w0 M h (pushes h os) (ovr (pushes h os) X) ⟨fun id => if h.n ≤ id ∧ id < h.n + os.length then M' (id - h.n) else M id, imF, M.im0⟩ w' := by
  have hn := pushes_n os h
  have hle : M.le ⟨fun id => if h.n ≤ id ∧ id < h.n + os.length then M' (id - h.n) else M id, imF, M.im0⟩ := by
    refine ⟨fun id p hp => ?_, hi3, rfl⟩
    show (if _ then _ else _) = _
    rw [if_neg]; exact hp
    intro hc; rw [hM id hc.1 (by omega)] at hp; cases hp
  have hX : ∀ id p, M id = some p → ovr (pushes h os) X id = X id := by
    intro id p hp
    unfold ovr
    split
    · rename_i hlt
      rcases Nat.lt_or_ge id h.n with k | k
      · rw [pushes_old os h id k, agree id k]
      · rw [hM id k hlt] at hp; cases hp
    · rfl
  have hnew : ∀ j p, M' j = some p → ∃ cs, os[j]? = some cs ∧ OR w.heap.size M' p w' (.cells cs false) ∧ w.heap.size ≤ p.blk ∧ j < os.length := by
    intro j p hp
    obtain ⟨o, h1, h2⟩ := R'.obj j p hp
    simp only [ocells, Option.map_eq_some_iff] at h1
    obtain ⟨cs, hc, rfl⟩ := h1
    have : w.heap.size ≤ p.blk := by
      obtain ⟨arr, e, fz, a, b, c, d, g⟩ := h2
      rcases g with g | g
      · cases g
      · exact g.2
    exact ⟨cs, hc, h2, this, (List.getElem?_eq_some_iff.1 hc).1⟩
  have hXn : ∀ j cs, os[j]? = some cs → ovr (pushes h os) X (h.n + j) = some (.cells cs false) := by
    intro j cs hj
    have hlt := (List.getElem?_eq_some_iff.1 hj).1
    unfold ovr
    rw [if_pos (by omega), pushes_new os h j cs hj]
  have hold : ∀ id p, M id = some p → ∀ o, X id = some o → o ≠ .gone → p.blk < w.heap.size := by
    intro id p hp o ho hg
    obtain ⟨o', h1, h2⟩ := R.obj id p hp
    rw [ho] at h1; injection h1 with h1; subst h1
    exact h2.lt hg
  have hblk : ∀ b, b < w.heap.size → w'.heap[b]? = w.heap[b]? := fun b hb => R'.below.block b hb
  refine ⟨hle, fun id a b => ?_, ?_⟩
  · show (if _ then _ else _) = _
    rw [if_neg (by omega)]; exact a
  · refine ⟨R.below.trans (R'.below.mono R.big), Nat.le_trans R.big R'.below.size, ?_, ?_, ?_, ?_⟩
    · intro id p hp
      have hp' : (if h.n ≤ id ∧ id < h.n + os.length then M' (id - h.n) else M id) = some p := hp
      split at hp'
      · rename_i hc
        obtain ⟨cs, h1, h2, h3, h4⟩ := hnew _ _ hp'
        refine ⟨.cells cs false, by have := hXn _ _ h1; rwa [show h.n + (id - h.n) = id by omega] at this, ?_⟩
        obtain ⟨arr, e, fz, a, b, c, d, g⟩ := h2
        refine ⟨arr, e, fz, a, b, c, ?_, .inr ⟨?_, Nat.le_trans R.big h3⟩⟩
        · refine RVs.mono (M := ⟨fun _ => none, imF, M.im0⟩) (M' := ⟨fun id => if h.n ≤ id ∧ id < h.n + os.length then M' (id - h.n) else M id, imF, M.im0⟩) ⟨?_, ?_, rfl⟩ _ _ (hcs cs (List.mem_iff_getElem?.2 ⟨_, h1⟩) _ d)
          · intro _ _ h; cases h
          · intro _ _ h; exact h
        · rcases g with g | g
          · cases g
          · exact g.1
      · obtain ⟨o, h1, h2⟩ := R.obj id p hp'
        refine ⟨o, (hX id p hp').trans h1, OR.mono hle (OR.heap (fun hg => hblk _ (h2.lt hg)) h2)⟩
    · intro i j p q hi hj hne hb
      have hi' : (if h.n ≤ i ∧ i < h.n + os.length then M' (i - h.n) else M i) = some p := hi
      have hj' : (if h.n ≤ j ∧ j < h.n + os.length then M' (j - h.n) else M j) = some q := hj
      split at hi'
      · rename_i ci
        obtain ⟨cs, h1, h2, h3, h4⟩ := hnew _ _ hi'
        split at hj'
        · rename_i cj
          obtain ⟨ds, k1, k2, k3, k4⟩ := hnew _ _ hj'
          rcases R'.sep _ _ _ _ hi' hj' (by omega) hb with g | g
          · simp [ocells, h1] at g
          · simp [ocells, k1] at g
        · right
          rw [hX j q hj']
          obtain ⟨o, g1, g2⟩ := R.obj j q hj'
          by_cases hg : o = .gone
          · rw [g1, hg]
          · have := g2.lt hg; omega
      · split at hj'
        · obtain ⟨ds, k1, k2, k3, k4⟩ := hnew _ _ hj'
          left
          rw [hX i p hi']
          obtain ⟨o, g1, g2⟩ := R.obj i p hi'
          by_cases hg : o = .gone
          · rw [g1, hg]
          · have := g2.lt hg; omega
        · rw [hX i p hi', hX j q hj']; exact R.sep i j p q hi' hj' hne hb
    · intro b arr hb
      obtain ⟨h1, h2⟩ := hi1 b arr hb
      refine ⟨h1, fun id p hp hbp => ?_⟩
      have hp' : (if h.n ≤ id ∧ id < h.n + os.length then M' (id - h.n) else M id) = some p := hp
      split at hp'
      · exact absurd (hbp ▸ hb) (hi2 _ _ _ hp')
      · rw [hX id p hp']
        rcases h2 with h2 | h2
        · exact (R.im b arr h2).2 id p hp' hbp
        · left
          obtain ⟨o, g1, g2⟩ := R.obj id p hp'
          by_cases hg : o = .gone
          · rw [g1, hg]
          · have := g2.lt hg; omega
    · intro b arr hb hlt
      rcases (hi1 b arr hb).2 with k | k
      · exact R.im0 b arr k hlt
      · have := R.big; omega

/-- Called with data that stays. -/
theorem Fun.calling (F : Fun P f ds r os) (hd : idfs ds = true) (wf : h.WF) : Calling P (.fn f) ds h (shift h.n r, pushes h os) where
  wf := pushes_wf os wf
  ext := pushes_ext os h
  fn := fun g hg => by injection hg with hg; subst hg; exact F.fn
  round := fun l hl => by cases hl
  call := fun g hg n B w0 M X w args' ha R hM agree => by
    injection hg with hg; subst hg
    have ha' : RVs ⟨fun _ => none, M.im, M.im⟩ ds args'.toList := RVs.ext (M := M.pure) (N := ⟨fun _ => none, M.im, M.im⟩) (fun _ _ h => by cases h) (fun _ _ h => h) (ha.idf hd)
    refine CallsIn.mono (F.call n w M.im args' ha' fun b arr hb => (R.im b arr hb).1) fun e w' hb => ?_
    obtain ⟨v, M', he, R', hv, h1, h2, h3⟩ := hb
    refine ⟨v, he, _, fun_stp R agree hM R' h3 (imF := M'.im) (fun b arr hb => ⟨(R'.im b arr hb).1, h2 b arr hb⟩) ?_ h1 ?_, ?_⟩
    · intro j p arr hp hc
      obtain ⟨o, g1, g2⟩ := R'.obj j p hp
      simp only [ocells, Option.map_eq_some_iff] at g1
      obtain ⟨cs, g1, rfl⟩ := g1
      rcases (R'.im _ _ hc).2 j p hp rfl with g | ⟨cs', g⟩ <;> simp [ocells, g1] at g
    · intro cs hc vs hvs
      exact RVs.ext (M := M'.pure) (N := ⟨fun _ => none, M'.im, M.im0⟩) (fun _ _ h => by cases h) (fun _ _ h => h) (hvs.idf (F.idf cs hc))
    · refine RV.shift (M := M') (N := ⟨fun id => if h.n ≤ id ∧ id < h.n + os.length then M' (id - h.n) else M id, M'.im, M.im0⟩) ?_ (fun _ _ h => h) hv
      intro id p hp
      have : id < os.length := by
        rcases Nat.lt_or_ge id os.length with k | k
        · exact k
        · rw [h3 id k] at hp; cases hp
      show (if _ then _ else _) = _
      rw [if_pos (by omega), Nat.add_sub_cancel]; exact hp

def allIm (w : World) : Nat → Option (Array Value) := fun b => match w.heap[b]? with
  | some (.cells arr _ _) => some arr
  | _ => none
theorem allIm_ok (w : World) : ImOk (allIm w) w := fun b arr hb => by
  unfold allIm at hb
  split at hb
  · rename_i a e fz hh; injection hb with hb; subst hb; exact ⟨e, fz, hh⟩
  · cases hb

/-- Called with what lies in the heap, which it does not keep. -/
theorem Fun.borrow (F : Fun P f ds r os) {as : List AV} (fv : FVs h (fun _ => none) true true ds as) (hr : noi r = true) (hos : ∀ cs ∈ os, nois cs = true) (wf : h.WF) : Calling P (.fn f) as h (shift h.n r, pushes h os) where
  wf := pushes_wf os wf
  ext := pushes_ext os h
  fn := fun g hg => by injection hg with hg; subst hg; exact F.fn
  round := fun l hl => by cases hl
  call := fun g hg n B w0 M X w args' ha R hM agree => by
    injection hg with hg; subst hg
    have fz : Frz h (fun _ => none) true w M ⟨fun _ => none, allIm w, allIm w⟩ := by
      refine ⟨fun _ _ _ h => (by cases h), fun id p all ro hp hg _ _ => ?_, fun b c hb => ?_⟩
      · obtain ⟨o, h1, h2⟩ := R.obj id p hp
        rw [agree id (wf.lt hg), hg] at h1; injection h1 with h1; subst h1
        obtain ⟨arr, e, fz, a, b, c, d, g⟩ := h2
        exact ⟨arr, by show allIm w p.blk = _; unfold allIm; rw [a], c, d⟩
      · obtain ⟨⟨e, fz, h1⟩, _⟩ := R.im b c hb
        show allIm w b = _; unfold allIm; rw [h1]
    have ha' : RVs ⟨fun _ => none, allIm w, allIm w⟩ ds args'.toList := FVs.rv fz fv ha
    refine CallsIn.mono (F.call n w (allIm w) args' ha' (allIm_ok w)) fun e w' hb => ?_
    obtain ⟨v, M', he, R', hv, h1, h2, h3⟩ := hb
    refine ⟨v, he, _, fun_stp R agree hM R' h3 (imF := M.im) (fun b arr hb => ?_) ?_ (fun _ _ h => h) ?_, ?_⟩
    · obtain ⟨⟨e, fz, g1⟩, _⟩ := R.im b arr hb
      exact ⟨⟨e, fz, by rw [R'.below.block b (Array.getElem?_eq_some_iff.1 g1).1]; exact g1⟩, .inl hb⟩
    · intro j p arr hp hc
      obtain ⟨o, g1, g2⟩ := R'.obj j p hp
      simp only [ocells, Option.map_eq_some_iff] at g1
      obtain ⟨cs, g1, rfl⟩ := g1
      obtain ⟨_, _, _, _, _, _, _, g⟩ := g2
      obtain ⟨⟨e, fz, k⟩, _⟩ := R.im _ arr hc
      have := (Array.getElem?_eq_some_iff.1 k).1
      rcases g with g | g
      · cases g
      · omega
    · intro cs hc vs hvs
      have a : RVs M'.pure cs vs := hvs.idf (F.idf cs hc)
      exact RVs.noi (fun _ _ h => by cases h) (hos cs hc) a
    · have a : RV (⟨M'.f, M.im, M.im0⟩ : Mp) r v := RV.noi (M := M') (N := ⟨M'.f, M.im, M.im0⟩) (fun _ _ h => h) hr hv
      refine RV.shift (M := ⟨M'.f, M.im, M.im0⟩) (N := ⟨fun id => if h.n ≤ id ∧ id < h.n + os.length then M' (id - h.n) else M id, M.im, M.im0⟩) ?_ (fun _ _ h => h) a
      intro id p hp
      have hp' : M' id = some p := hp
      have : id < os.length := by
        rcases Nat.lt_or_ge id os.length with k | k
        · exact k
        · rw [h3 id k] at hp'; cases hp'
      show (if _ then _ else _) = _
      rw [if_pos (by omega), Nat.add_sub_cancel]; exact hp'

/-! ### From a run on the empty heap -/
def kap : List Nat → Nat → Option Nat
  | [], _ => none
  | a :: l, id => if id = a then some 0 else (kap l id).map (· + 1)
theorem kap_some : ∀ {l : List Nat} {id j : Nat}, kap l id = some j → l[j]? = some id
  | [], _, _, h => by cases h
  | a :: l, id, j, h => by
    unfold kap at h
    split at h
    · rename_i e; injection h with h; subst h e; rfl
    · simp only [Option.map_eq_some_iff] at h
      obtain ⟨k, hk, rfl⟩ := h
      simpa using kap_some hk
theorem kap_none : ∀ {l : List Nat} {id : Nat}, kap l id = none → id ∉ l
  | [], _, _ => by simp
  | a :: l, id, h => by
    unfold kap at h
    split at h
    · cases h
    · rename_i e
      simp only [Option.map_eq_none_iff] at h
      have := kap_none h
      simp [e, this]
/-- In this heap a value is r with blocks of its own. -/
def Told (h : AH) (v r : AV) (os : List (List AV)) : Prop := ∃ κs : List Nat, κs.length = os.length ∧ κs.Nodup ∧ FV h (kap κs) false false r v ∧
  ∀ (j : Nat) cs, os[j]? = some cs → ∃ id all, κs[j]? = some id ∧ h.get id = some (.cells all false) ∧ FVs h (kap κs) false true cs all

open Classical in
theorem Fun.of_has (H : Has P f ds hZ fun v h => Told h v r os) (hos : ∀ cs ∈ os, idfs cs = true) : Fun P f ds r os := by
  obtain ⟨⟨rv, h1⟩, C, κs, hlen, hnd, hfv, hobj⟩ := H
  refine ⟨C.fn f rfl, hos, ?_⟩
  intro n w im args' ha hok
  have R0 : Rel w.heap.size w ⟨fun _ => none, im, im⟩ (fun _ => none) w :=
    ⟨Go.RowKit.Below.refl _ _, Nat.le_refl _, fun _ _ h => (by cases h), fun _ _ _ _ h => (by cases h), fun b arr hb => ⟨hok b arr hb, fun _ _ h => by cases h⟩, fun b arr hb _ => hb⟩
  refine CallsIn.mono (C.call f rfl n w.heap.size w ⟨fun _ => none, im, im⟩ (fun _ => none) w args' ha R0 (fun _ _ _ => rfl) (fun id h => by cases h)) fun e w' hb => ?_
  obtain ⟨v, he, M2, st, hv⟩ := hb
  have R2 := st.rel
  dsimp only at R2 hv hfv hobj
  have him0 : M2.im0 = im := st.le.2.2
  have hX2 : ∀ id p, M2 id = some p → ovr h1 (fun _ => none) id = h1.get id := by
    intro id p hp
    obtain ⟨o, g1, g2⟩ := R2.obj id p hp
    unfold ovr at g1 ⊢
    split at g1
    · rename_i k; rw [if_pos k]
    · cases g1
  have hkept : ∀ id, id ∈ κs → ∃ all, h1.get id = some (.cells all false) := by
    intro id hid
    obtain ⟨j, hj⟩ := List.mem_iff_getElem?.1 hid
    have hlt : j < os.length := by rw [← hlen]; exact (List.getElem?_eq_some_iff.1 hj).1
    obtain ⟨id', all, k1, k2, k3⟩ := hobj j _ (List.getElem?_eq_getElem hlt)
    rw [hj] at k1; injection k1 with k1; subst k1
    exact ⟨all, k2⟩
  have hcell : ∀ id p all, M2 id = some p → h1.get id = some (.cells all false) → ∃ arr e, w'.heap[p.blk]? = some (.cells arr e (0, 0)) ∧ p.tot = arr.size ∧ p.base + all.length ≤ arr.size ∧ RVs M2 all ((arr.toList.drop p.base).take all.length) ∧ w.heap.size ≤ p.blk := by
    intro id p all hp hg
    obtain ⟨o, g1, g2⟩ := R2.obj id p hp
    rw [hX2 id p hp, hg] at g1; injection g1 with g1; subst g1
    obtain ⟨arr, e, fz, a, b, c, d, g⟩ := g2
    rcases g with g | ⟨rfl, g⟩
    · cases g
    · exact ⟨arr, e, a, b, c, d, g⟩
  let kb : Nat → Prop := fun b => ∃ id p, id ∈ κs ∧ M2 id = some p ∧ p.blk = b
  let im' : Nat → Option (Array Value) := fun b => if b < w.heap.size then im b else if kb b then none else allIm w' b
  let N : Mp := ⟨fun id' => (κs[id']?).bind M2, im', im⟩
  have hNf : ∀ id' p, N id' = some p → ∃ id, κs[id']? = some id ∧ M2 id = some p := by
    intro id' p hp
    have hp' : (κs[id']?).bind M2 = some p := hp
    simpa [Option.bind_eq_some_iff] using hp'
  have hdiff : ∀ id p id2 p2, M2 id = some p → M2 id2 = some p2 → id ≠ id2 → p.blk = p2.blk → ∀ o o2, h1.get id = some o → h1.get id2 = some o2 → o = .gone ∨ o2 = .gone := by
    intro id p id2 p2 hp hp2 hne hb o o2 ho ho2
    rcases R2.sep id id2 p p2 hp hp2 hne hb with g | g
    · rw [hX2 id p hp, ho] at g; injection g with g; exact .inl g
    · rw [hX2 id2 p2 hp2, ho2] at g; injection g with g; exact .inr g
  have fz : Frz h1 (kap κs) false w' M2 N := by
    refine ⟨fun id id' p hk hp => ?_, fun id p all ro hp hg hk hro => ?_, fun b c hb => ?_⟩
    · show (κs[id']?).bind M2 = some p
      rw [kap_some hk]; exact hp
    · have hro' : ro = false := by cases ro with
        | false => rfl
        | true => exact absurd (hro rfl) (by simp)
      subst hro'
      obtain ⟨arr, e, a, b, c, d, g⟩ := hcell id p all hp hg
      refine ⟨arr, ?_, c, d⟩
      show (if p.blk < w.heap.size then im p.blk else if kb p.blk then none else allIm w' p.blk) = some arr
      rw [if_neg (by omega), if_neg]
      · unfold allIm; rw [a]
      · rintro ⟨id2, p2, k1, k2, k3⟩
        obtain ⟨all2, k4⟩ := hkept id2 k1
        have hne : id ≠ id2 := fun e => kap_none hk (e ▸ k1)
        rcases hdiff id p id2 p2 hp k2 hne k3.symm _ _ hg k4 with g | g <;> cases g
    · show (if b < w.heap.size then im b else if kb b then none else allIm w' b) = some c
      by_cases hlt : b < w.heap.size
      · rw [if_pos hlt]
        have := R2.im0 b c hb hlt
        rwa [him0] at this
      · rw [if_neg hlt, if_neg]
        · obtain ⟨⟨e, fz, g⟩, _⟩ := R2.im b c hb
          unfold allIm; rw [g]
        · rintro ⟨id2, p2, k1, k2, k3⟩
          obtain ⟨all2, k4⟩ := hkept id2 k1
          rcases (R2.im b c hb).2 id2 p2 k2 k3 with g | ⟨cs, g⟩ <;> (rw [hX2 id2 p2 k2, k4] at g; cases g)
  have hr : RV N r v := FV.rv (d := false) fz hfv hv
  refine ⟨v, N, he, ⟨R2.below, R2.big, ?_, ?_, ?_, ?_⟩, hr, ?_, ?_, ?_⟩
  · intro id' p hp
    obtain ⟨id, k1, k2⟩ := hNf id' p hp
    have hlt : id' < os.length := by rw [← hlen]; exact (List.getElem?_eq_some_iff.1 k1).1
    obtain ⟨id2, all, g1, g2, g3⟩ := hobj id' _ (List.getElem?_eq_getElem hlt)
    rw [k1] at g1; injection g1 with g1; subst g1
    obtain ⟨arr, e, a, b, c, d, g⟩ := hcell id p all k2 g2
    have hl := FVs.length g3
    refine ⟨.cells os[id'] false, by simp [ocells, hlt], arr, e, (0, 0), a, b, by rw [← hl]; exact c, ?_, .inr ⟨rfl, g⟩⟩
    have := FVs.rv (d := true) fz g3 d
    rw [← hl]
    exact RVs.mono (deepM_le true N) _ _ this
  · intro i j p q hi hj hne hb
    obtain ⟨a, k1, k2⟩ := hNf i p hi
    obtain ⟨b, g1, g2⟩ := hNf j q hj
    have hab : a ≠ b := by
      rintro rfl
      have hi' := List.getElem?_eq_some_iff.1 k1
      have hj' := List.getElem?_eq_some_iff.1 g1
      exact hne ((List.getElem_inj hnd).1 (hi'.2.trans hj'.2.symm))
    obtain ⟨all, x1⟩ := hkept a (List.mem_iff_getElem?.2 ⟨_, k1⟩)
    obtain ⟨all2, x2⟩ := hkept b (List.mem_iff_getElem?.2 ⟨_, g1⟩)
    rcases hdiff a p b q k2 g2 hab hb _ _ x1 x2 with g | g <;> cases g
  · intro b arr hb
    have hb' : (if b < w.heap.size then im b else if kb b then none else allIm w' b) = some arr := hb
    constructor
    · split at hb'
      · rename_i hlt
        obtain ⟨e, fz, g⟩ := hok b arr hb'
        exact ⟨e, fz, by rw [R2.below.block b hlt]; exact g⟩
      · split at hb'
        · cases hb'
        · exact allIm_ok w' b arr hb'
    · intro id' p hp hbp
      obtain ⟨id, k1, k2⟩ := hNf id' p hp
      obtain ⟨all, x1⟩ := hkept id (List.mem_iff_getElem?.2 ⟨_, k1⟩)
      obtain ⟨_, _, _, _, _, _, g⟩ := hcell id p all k2 x1
      rw [if_neg (by omega), if_pos ⟨id, p, List.mem_iff_getElem?.2 ⟨_, k1⟩, k2, hbp⟩] at hb'
      cases hb'
  · intro b arr hb hlt
    have hb' : (if b < w.heap.size then im b else if kb b then none else allIm w' b) = some arr := hb
    rwa [if_pos hlt] at hb'
  · intro b arr hb
    obtain ⟨e, fz, g⟩ := hok b arr hb
    show (if b < w.heap.size then im b else if kb b then none else allIm w' b) = some arr
    rw [if_pos (Array.getElem?_eq_some_iff.1 g).1]; exact hb
  · intro b arr hb
    have hb' : (if b < w.heap.size then im b else if kb b then none else allIm w' b) = some arr := hb
    by_cases hlt : b < w.heap.size
    · rw [if_pos hlt] at hb'; exact .inl hb'
    · exact .inr (by omega)
  · intro id' hid
    show (κs[id']?).bind M2 = none
    rw [List.getElem?_eq_none (by omega)]; rfl
end
end Go.Ai
