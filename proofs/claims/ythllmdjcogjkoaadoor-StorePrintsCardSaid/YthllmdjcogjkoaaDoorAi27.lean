/- Slices that grow; boxes told as data. -/
import Derived.Test.YthllmdjcogjkoaaDoorAi26
namespace Go.Ai
set_option linter.unusedSimpArgs false
set_option linter.unusedVariables false

/-- What is asked of a slice type to be appended to. -/
structure AppTy (P : Program) (st e : TypeId) (z : Nat) : Prop where
  el : sliceElem P st = some e
  un : P.underlying st = some (.slice e)
  inf0 : (match P.info? e with | some i => i.size == z && decide (i.bytes ≤ 16384) | none => false) = true
  zs0 : (zeroCellsA P e).isSome = true
  pos : 0 < z
  u8 : isU8 P e = false
theorem AppTy.inf {P : Program} {st e : TypeId} {z : Nat} (A : AppTy P st e z) : ∃ i, P.info? e = some i ∧ i.size = z ∧ i.bytes ≤ 16384 := by
  have := A.inf0
  split at this
  · rename_i i hi; simp at this; exact ⟨i, hi, this.1, this.2⟩
  · cases this
theorem AppTy.zs {P : Program} {st e : TypeId} {z : Nat} (A : AppTy P st e z) : ∃ zs, zeroCellsA P e = some zs := Option.isSome_iff_exists.1 A.zs0
/-- A slice of the function's own that is appended to: its cells. -/
def Own (h : AH) (z : Nat) (v : AV) (cs : List AV) : Prop :=
  (v = .nilslice ∧ cs = []) ∨ (cs = [] ∧ ∃ id off all, v = .slice id off 0 (.exact 0) ∧ h.get id = some (.cells all false) ∧ off ≤ all.length) ∨ ∃ id n, v = .slice id 0 n (.rest z) ∧ cs.length = n * z ∧ h.get id = some (.cells cs false)
/-- .. whose number is not below b. -/
def Above (b : Nat) (v : AV) : Prop := ∀ id off n c, v = .slice id off n c → b ≤ id
section
variable {P : Program} {h : AH}
theorem Own.keep {z : Nat} {v : AV} {cs : List AV} {h' : AH} (o : Own h z v cs) (k : ∀ id, id < h.n → h'.get id = h.get id) (wf : h.WF) : Own h' z v cs := by
  rcases o with o | ⟨e, id, off, all, e2, hg, ho⟩ | ⟨id, n, e, hl, hg⟩
  · exact .inl o
  · exact .inr (.inl ⟨e, id, off, all, e2, (k id (wf.lt hg)).trans hg, ho⟩)
  · exact .inr (.inr ⟨id, n, e, hl, (k id (wf.lt hg)).trans hg⟩)
theorem Own.push {z : Nat} {v : AV} {cs : List AV} (o : Own h z v cs) (ob : AO) (hb : ∀ id off n c, v = .slice id off n c → id < h.n) : Own (h.push ob) z v cs := by
  rcases o with o | ⟨e, id, off, all, e2, hg, ho⟩ | ⟨id, n, e, hl, hg⟩
  · exact .inl o
  · exact .inr (.inl ⟨e, id, off, all, e2, by rw [AH.get_push, if_neg (by have := hb _ _ _ _ e2; omega)]; exact hg, ho⟩)
  · exact .inr (.inr ⟨id, n, e, hl, by rw [AH.get_push, if_neg (by have := hb _ _ _ _ e; omega)]; exact hg⟩)
theorem Own.nil {z : Nat} : Own h z .nilslice [] := .inl ⟨rfl, rfl⟩
theorem Above.nil {b : Nat} : Above b .nilslice := fun _ _ _ _ h => by cases h

/-- What is appended: the cells of n elements. -/
def Mor (h : AH) (z : Nat) (x : AV) (m : Nat) (ns : List AV) : Prop :=
  ns.length = m * z ∧ ((x = .lst m ns) ∨ (∃ id c all ro, x = .slice id 0 m c ∧ h.get id = some (.cells all ro) ∧ ns = all.take (m * z) ∧ m * z ≤ all.length) ∨ (x = .nilslice ∧ m = 0))
theorem moreA_of {st e : TypeId} {z : Nat} (A : AppTy P st e z) {x : AV} {m : Nat} {ns : List AV} (M : Mor h z x m ns) : moreA P h e z st x = some (m, ns) := by
  obtain ⟨hl, hx⟩ := M
  unfold moreA
  rw [A.un]
  dsimp only
  rcases hx with rfl | ⟨id, c, all, ro, rfl, hg, hns, hle⟩ | ⟨rfl, rfl⟩
  · simp only [lenOfA, firstA]
    rw [decide_eq_true ⟨Nat.le_refl _, hl⟩]
    simp only [cond_true]
    rw [List.take_of_length_le (by omega), decide_eq_true hl]; rfl
  · simp only [lenOfA, firstA]
    rw [decide_eq_true (Nat.le_refl _)]
    simp only [cond_true, cellsAt, hg, cut]
    rw [decide_eq_true (by omega)]
    simp only [cond_true, List.drop_zero]
    rw [← hns, decide_eq_true hl]; rfl
  · simp only [lenOfA, firstA, decide_true, cond_true]
    have : ns = [] := List.eq_nil_of_length_eq_zero (by omega)
    subst this
    simp

theorem app_own {st e : TypeId} {z : Nat} (A : AppTy P st e z) {v x : AV} {m : Nat} {cs ns : List AV} {b : Nat} (hb : b ≤ h.n) (o : Own h z v cs) (hv : Above b v) (M : Mor h z x m ns) (hn : ∀ n, cs.length = n * z → n + m ≤ 2147483648) (hone : ns.all AV.one = true) :
    ∃ v' h', builtinA P h .append [st, st] [v, x] = some (v', h') ∧ Own h' z v' (cs ++ ns) ∧ Above b v' ∧ h.n ≤ h'.n ∧ (∀ id, id < b → h'.get id = h.get id) ∧ (h.pb = 0 → h'.pb = 0 ∧ h'.ws = h.ws) := by
  obtain ⟨i, hi, hz, hby⟩ := A.inf
  obtain ⟨zs, hzs⟩ := A.zs
  have hpos := A.pos
  have hm := moreA_of A M
  have start : builtinA P h .append [st, st] [v, x] = (match v with
          | .nilslice =>
            bif decide (m = 0) then some (.nilslice, h)
            else bif roomA i.bytes m then some (.slice h.n 0 m (.rest i.size), h.push (rowA P e ns)) else none
          | .slice id off len (.exact c) =>
            bif decide (len + m ≤ c) then
              match storeCellsA h id (off + len * i.size) ns with
              | some h' => some (.slice id off (len + m) (.exact c), h')
              | none => none
            else bif roomA i.bytes (len + m) then
              match firstA h i.size len v with
              | some old => some (.slice h.n 0 (len + m) (.rest i.size), h.push (.cells (old ++ ns) false))
              | none => none
            else none
          | .slice id off len (.rest z) =>
            bif decide (z = i.size ∧ 0 < z) then
              bif decide (m = 0) then some (v, h)
              else match h.get id with
                | some (.cells cs false) =>
                  bif decide (off + len * z + m * z ≤ cs.length) then
                    match storeCellsA h id (off + len * z) ns with
                    | some h' => some (.slice id off (len + m) (.rest z), h')
                    | none => none
                  else bif roomA i.bytes (len + m) && ns.all AV.one then
                    match cut cs off (len * z) with
                    | some old => some (.slice h.n 0 (len + m) (.rest z), (h.set id .gone).push (.cells (old ++ ns) false))
                    | none => none
                  else none
                | some (.byt e' cs) =>
                  bif decide (e' = e) && (roomA i.bytes (len + m) && ns.all AV.one) then
                    match cut cs off (len * z) with
                    | some old => some (.slice h.n 0 (len + m) (.rest z), (h.set id .gone).push (.byt e (old ++ ns)))
                    | none => none
                  else none
                | _ => none
            else none
          | .empty id _ z =>
            bif decide (z = i.size ∧ 0 < z) then
              bif decide (m = 0) then some (v, h)
              else match h.get id with
                | some (.cells _ false) =>
                  bif roomA i.bytes m && ns.all AV.one then some (.slice h.n 0 m (.rest z), (h.set id .gone).push (.cells ns false)) else none
                | _ => none
            else none
          | _ => none) := by
    show appendA P h [st, st] [v, x] = _
    unfold appendA
    simp only [A.el, hi, hzs]
    rw [hz, hm]
    subst hz
    cases v with
    | slice id off len c => cases c <;> rfl
    | _ => rfl
  have hrow : rowA P e ns = .cells ns false := by unfold rowA; rw [A.u8]; rfl
  rw [hrow] at start
  have hroom : ∀ n, n ≤ 2147483648 → roomA i.bytes n = true := fun n hn => by unfold roomA; exact decide_eq_true ⟨hn, hby⟩
  have hl0 := M.1
  have zero : m = 0 → ns = [] := fun e => List.eq_nil_of_length_eq_zero (by rw [hl0, e, Nat.zero_mul])
  rw [start]
  rcases o with ⟨rfl, rfl⟩ | ⟨rfl, id, off, all, rfl, hg, hoff⟩ | ⟨id, n, rfl, hl, hg⟩
  · by_cases h0 : m = 0
    · rw [zero h0]
      exact ⟨.nilslice, h, by simp [h0], .nil, .nil, Nat.le_refl _, fun _ _ => rfl, fun hp => ⟨hp, rfl⟩⟩
    · refine ⟨.slice h.n 0 m (.rest z), h.push (.cells ns false), ?_, .inr (.inr ⟨h.n, m, rfl, by simpa using hl0, by rw [AH.get_push, if_pos rfl]; rfl⟩), ?_, by rw [AH.push_n]; omega, fun id hid => by rw [AH.get_push, if_neg (by omega)], fun hp => ⟨hp, rfl⟩⟩
      · dsimp only
        rw [decide_eq_false h0, hroom m (by have := hn 0 (by simp); omega), hz]; rfl
      · intro id off n c e; injection e with e1 _ _ _; omega
  · by_cases h0 : m = 0
    · rw [zero h0]
      refine ⟨.slice id off 0 (.exact 0), h, ?_, .inr (.inl ⟨rfl, id, off, all, rfl, hg, hoff⟩), hv, Nat.le_refl _, fun _ _ => rfl, fun hp => ⟨hp, rfl⟩⟩
      simp [h0, storeCellsA]
    · refine ⟨.slice h.n 0 m (.rest z), h.push (.cells ns false), ?_, .inr (.inr ⟨h.n, m, rfl, by simpa using hl0, by rw [AH.get_push, if_pos rfl]; rfl⟩), ?_, by rw [AH.push_n]; omega, fun id hid => by rw [AH.get_push, if_neg (by omega)], fun hp => ⟨hp, rfl⟩⟩
      · dsimp only
        rw [decide_eq_false (by omega)]
        simp only [cond_false, Nat.zero_add]
        rw [hroom m (by have := hn 0 (by simp); omega), hz]
        simp [firstA, cellsAt, hg, cut, hoff]
      · intro id off n c e; injection e with e1 _ _ _; omega
  · by_cases h0 : m = 0
    · rw [zero h0, List.append_nil]
      refine ⟨.slice id 0 n (.rest z), h, ?_, .inr (.inr ⟨id, n, rfl, hl, hg⟩), hv, Nat.le_refl _, fun _ _ => rfl, fun hp => ⟨hp, rfl⟩⟩
      dsimp only
      rw [decide_eq_true ⟨hz.symm, hpos⟩, decide_eq_true h0]; rfl
    · have hid : b ≤ id := hv _ _ _ _ rfl
      refine ⟨.slice h.n 0 (n + m) (.rest z), (h.set id .gone).push (.cells (cs ++ ns) false), ?_, .inr (.inr ⟨h.n, n + m, rfl, by rw [List.length_append, hl, hl0, Nat.add_mul], by rw [AH.get_push, AH.set_n, if_pos rfl]⟩), ?_, by rw [AH.push_n, AH.set_n]; omega, fun j hj => by rw [AH.get_push, AH.set_n, if_neg (by omega), AH.get_set, if_neg (by omega)], ?_⟩
      · dsimp only
        rw [decide_eq_true ⟨hz.symm, hpos⟩, decide_eq_false h0]
        simp only [cond_true, cond_false, hg, Nat.zero_add]
        have : 0 < m * z := Nat.mul_pos (by omega) hpos
        rw [decide_eq_false (by omega), hroom _ (hn n hl), hone]
        simp only [cond_false, Bool.and_self, cond_true, cut, Nat.zero_add]
        rw [decide_eq_true (by omega)]
        simp only [cond_true, List.drop_zero]
        rw [List.take_of_length_le (by omega)]
      · intro id' off n' c e; injection e with e1 _ _ _; omega
      · intro hp
        refine ⟨hp, ?_⟩
        show (bif decide (id < h.pb) then id :: h.ws else h.ws) = h.ws
        rw [hp]; rfl
/-- The answer of a slice that was appended to. -/
theorem Own.told {κ : Nat → Option Nat} {any d : Bool} {z : Nat} {v : AV} {cs : List AV} {n : Nat} (o : Own h z v cs) (hk : ∀ id, κ id = none) (hn : cs.length = n * z) (hz : 0 < z) (hs : FVs h κ any true cs cs) : FV h κ any d (.lst n cs) v := by
  rcases o with ⟨rfl, rfl⟩ | ⟨rfl, id, off, all, rfl, hg, hoff⟩ | ⟨id, m, rfl, hl, hg⟩
  · have : n = 0 := by
      rcases Nat.eq_zero_or_pos n with h | h
      · exact h
      · have := Nat.mul_pos h hz; simp at hn; omega
    subst this; simp [FV]
  · have : n = 0 := by
      rcases Nat.eq_zero_or_pos n with h | h
      · exact h
      · have := Nat.mul_pos h hz; simp at hn; omega
    subst this
    simp only [FV]
    exact .inr (.inr ⟨id, off, .exact 0, all, false, hk id, rfl, hg, by simp, by simpa using hoff, by simp [FVs]⟩)
  · have : n = m := Nat.eq_of_mul_eq_mul_right hz (hn.symm.trans hl)
    subst this
    exact FV.of_slice (hk id) hg (by simp) hs
theorem FV.box {κ : Nat → Option Nat} {d : Bool} {id : Nat} {cs all : List AV} {ro : Bool} (hk : κ id = none) (hg : h.get id = some (.cells all ro)) (hs : FVs h κ true true cs all) : FV h κ true d (.ipt cs 0) (.ptr id 0) := by
  simp only [FV]
  refine .inr ⟨id, 0, all, ro, hk, rfl, hg, fun _ => trivial, by rw [FVs.length hs]; omega, ?_⟩
  rw [List.drop_zero, ← FVs.length hs, List.take_length]; exact hs
theorem al_no {t : TypeId} {v : AV} (e : isBld P t = false) : allocA P h t v = newVarA h v := by unfold allocA; rw [e]; rfl
/-- A byte of a string, as a number. -/
def bAt (s : ByteArray) (i : Nat) : Int := match s[i]? with | some b => b.toNat | none => 0
theorem ix_str {t : TypeId} {k : IntKind} {s : ByteArray} {i : Nat} (hu : P.underlying t = some .string) (hi : i < s.size) : indexA P t (.str s) (.int k i) = some (.int .u8 (bAt s i)) := by
  have h : s[i]? = some s[i] := getElem?_pos s i hi
  simp only [indexA, hu, bAt, h, Int.toNat_natCast]
  rw [if_pos (by omega)]
theorem binA_str {op : BinOp} {t : TypeId} {a b : ByteArray} : binA P op t (.str a) (.str b) = strBinA op a b := rfl
theorem le_refl_nat (n : Nat) : (n ≤ n) = True := by simp
end
attribute [go_sem] binA_str strBinA fillA splice List.take_succ_cons List.take_zero List.drop_succ_cons List.drop_zero Nat.reduceLeDiff Nat.reduceLT storeA storeCellsA hL_set bare_hL_set List.set_cons_zero List.set_cons_succ List.all_cons List.all_nil AV.one Bool.and_true Bool.true_and Nat.lt_add_left_iff_pos List.append_nil le_refl_nat and_self Nat.reduceSub cut
end Go.Ai
