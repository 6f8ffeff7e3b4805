/- Two functions by contracts of their own: strings.Builder's copyCheck, and the comparison of strings. -/
import Derived.Test.YthllmdjcogjkoaaDoorAi27
import Derived.Lib.Bytealg
namespace Go.Ai
set_option linter.unusedSimpArgs false
set_option linter.unusedVariables false

/-- copyCheck, at a builder of type T. -/
def copyCkA (T : TypeId) (args : List AV) (h : AH) : Option (AV × AH) :=
  match args with
  | [.ptr id 0] => match h.get id with
    | some (.var e [.nilptr, b]) => bif e == T then some (.tuple [], h.set id (.var e [.ptr id 0, b])) else none
    | some (.var e [.ptr id' 0, b]) => bif e == T && id' == id then some (.tuple [], h) else none
    | _ => none
  | _ => none
def cmpA (args : List AV) (h : AH) : Option (AV × AH) :=
  match args with
  | [.str a, .str b] => some (.int .i64 (Lib.compareBytes a.data.toList b.data.toList), h)
  | _ => none

section
variable {P : Program}
theorem run_setCell_heap {w : World} {g o : Nat} {v : Value} {arr : Array Value} {e : TypeId} {fz : Nat × Nat} (h1 : w.heap[g]? = some (.cells arr e fz)) :
    w.setCell ⟨g, o, none⟩ v = w.putObj g (.cells (arr.setIfInBounds o v) e fz) := by
  obtain ⟨hlt, hx⟩ := Array.getElem?_eq_some_iff.1 h1
  unfold World.setCell World.putObj
  congr 1
  apply Array.ext
  · simp
  · intro i hi1 hi2
    simp only [Array.getElem_modify]
    by_cases ei : g = i
    · subst ei
      simp [hx]
    · rw [if_neg ei]
      exact (Array.getElem_setIfInBounds_ne (by simpa using hi1) ei).symm

theorem copy_ok {f : FuncId} {T : TypeId} (hE : Enters P f)
    (hu : ∀ (b : Nat) (w : World), w.cell? ⟨b, 0, none⟩ = some (.pointer (some ⟨b, 0, none⟩)) → Calls P f #[.pointer (some ⟨b, 0, none⟩)] w fun e w' => e = .returned (.tuple #[]) ∧ w' = w)
    (hf : ∀ (b : Nat) (w : World), w.cell? ⟨b, 0, none⟩ = some (.pointer none) → w.shape? b = some (T, 2) → w.frozen? ⟨b, 0, none⟩ = false →
      Calls P f #[.pointer (some ⟨b, 0, none⟩)] w fun e w' => e = .returned (.tuple #[]) ∧ w' = w.setCell ⟨b, 0, none⟩ (.pointer (some ⟨b, 0, none⟩)))
    {args : List AV} {h : AH} {r : AV × AH} (e : copyCkA T args h = some r) (wf : h.WF) : Calling P (.fn f) args h r := by
  unfold copyCkA at e
  split at e
  · rename_i id
    split at e
    · rename_i t b hg
      cases ht : t == T with
      | false => rw [ht] at e; cases e
      | true =>
        rw [ht] at e; simp only [cond_true] at e
        injection e with e; subst e
        obtain rfl : t = T := by simpa using ht
        have hlt := wf.lt hg
        refine ⟨wf.set hlt _, .set _ _ _, fun g hg' => by injection hg' with hg'; subst hg'; exact hE, ?_, fun l hl => by cases hl⟩
        intro g hgf n B w0 M X w args' ha R hM agree
        injection hgf with hgf; subst hgf
        obtain ⟨x, rest, e1, ⟨p, hp, rfl⟩, hr⟩ := ha
        cases hr
        obtain ⟨o, hx, ho⟩ := R.obj id p hp
        have hx0 := hx
        rw [agree id hlt, hg] at hx; injection hx with hx; subst hx
        obtain ⟨h1, h2, arr, h3, ⟨v0, rest0, e2, hv0, v1, rest1, e3, hv1, hr1⟩, hB⟩ := ho
        cases hv0; cases hr1; subst e3
        obtain rfl : arr = #[.pointer none, v1] := by cases arr; simpa using e2
        rw [h1, Nat.zero_add] at e1
        obtain rfl : args' = #[.pointer (some ⟨p.blk, 0, none⟩)] := by cases args'; simpa using e1
        refine callsIn_wide.2 ((hf p.blk w (by simp [World.cell?, h3]) (by simp [World.shape?, h3]) (by simp [World.frozen?, h3])).mono ?_)
        rintro e w' ⟨rfl, rfl⟩
        refine ⟨_, rfl, M, ⟨.refl _, fun _ e _ => e, ?_⟩, ⟨#[], rfl, rfl⟩⟩
        rw [run_setCell_heap h3]
        refine (R.put hp hx0 (by simp) (by simp) hB (o := .var t [.ptr id 0, b]) ?_).congr fun j q hq => ?_
        · exact ⟨h1, h2, _, World.putObj_heap_same (Array.getElem?_eq_some_iff.1 h3).1, ⟨_, _, rfl, ⟨p, hp, by rw [h1]⟩, _, _, rfl, hv1, rfl⟩, hB⟩
        · unfold ovr
          simp only [AH.set_n, AH.get_set]
          by_cases ej : j = id
          · subst ej; rw [if_pos hlt, if_pos rfl, if_pos rfl]
          · rw [if_neg ej, if_neg ej]
            split
            · rename_i e; exact (agree j e).symm
            · rfl
    · rename_i t id' b hg
      cases ht : (t == T && id' == id) with
      | false => rw [ht] at e; cases e
      | true =>
        rw [ht] at e; simp only [cond_true] at e
        injection e with e; subst e
        simp only [Bool.and_eq_true, beq_iff_eq] at ht
        obtain ⟨rfl, rfl⟩ := ht
        have hlt := wf.lt hg
        refine ⟨wf, .refl _, fun g hg' => by injection hg' with hg'; subst hg'; exact hE, ?_, fun l hl => by cases hl⟩
        intro g hgf n B w0 M X w args' ha R hM agree
        injection hgf with hgf; subst hgf
        obtain ⟨x, rest, e1, ⟨p, hp, rfl⟩, hr⟩ := ha
        cases hr
        obtain ⟨o, hx, ho⟩ := R.obj _ p hp
        rw [agree _ hlt, hg] at hx; injection hx with hx; subst hx
        obtain ⟨h1, h2, arr, h3, ⟨v0, rest0, e2, ⟨p', hp', hv0⟩, v1, rest1, e3, hv1, hr1⟩, hB⟩ := ho
        rw [hp] at hp'; injection hp' with hp'; subst hp'
        cases hr1; subst e3; subst hv0
        rw [h1, Nat.zero_add] at e1 e2
        obtain rfl : arr = #[.pointer (some ⟨p.blk, 0, none⟩), v1] := by cases arr; simpa using e2
        obtain rfl : args' = #[.pointer (some ⟨p.blk, 0, none⟩)] := by cases args'; simpa using e1
        refine callsIn_wide.2 ((hu p.blk w (by simp [World.cell?, h3])).mono ?_)
        rintro e w' ⟨rfl, rfl⟩
        refine ⟨_, rfl, M, ⟨.refl _, fun _ e _ => e, ?_⟩, ⟨#[], rfl, rfl⟩⟩
        show Rel B w0 M (ovr h X) w'
        rw [ovr_same agree]; exact R
    · cases e
  · cases e

theorem cmp_ok {f : FuncId} (hE : Enters P f) (hc : ∀ (a b : ByteArray) (w : World), Calls P f #[.string a, .string b] w fun e w' => e = .returned (.int .i64 (Lib.compareBytes a.data.toList b.data.toList)) ∧ w' = w)
    {args : List AV} {h : AH} {r : AV × AH} (e : cmpA args h = some r) (wf : h.WF) : Calling P (.fn f) args h r := by
  unfold cmpA at e
  split at e
  · rename_i a b
    injection e with e; subst e
    refine ⟨wf, .refl _, fun g hg' => by injection hg' with hg'; subst hg'; exact hE, ?_, fun l hl => by cases hl⟩
    intro g hgf n B w0 M X w args' ha R hM agree
    injection hgf with hgf; subst hgf
    obtain ⟨x, rest, e1, hx, y, rest2, e2, hy, hr⟩ := ha
    cases hx; cases hy; cases hr; subst e2
    obtain rfl : args' = #[.string a, .string b] := by cases args'; simpa using e1
    refine callsIn_wide.2 ((hc a b w).mono ?_)
    rintro e w' ⟨rfl, rfl⟩
    refine ⟨_, rfl, M, ⟨.refl _, fun _ e _ => e, ?_⟩, rfl⟩
    show Rel B w0 M (ovr h X) w'
    rw [ovr_same agree]; exact R
  · cases e
end
end Go.Ai
