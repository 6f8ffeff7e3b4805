/- What arguments read as; from a contract of a statement's function to the model's. -/
import Derived.Test.YthllmdjcogjkoaaDoorAi24
import GoSem.ClaimChange
namespace Go.Ai
set_option linter.unusedSimpArgs false
set_option linter.unusedVariables false

def imM (w : World) : Mp := ⟨fun _ => none, allIm w, allIm w⟩

/-- In Go's int. -/
def inI64 (n : Int) : Prop := -9223372036854775808 ≤ n ∧ n ≤ 9223372036854775807
theorem wf_inI64 {n : Int} (h : (Lit.int .i64 n).wf = true) : inI64 n := by
  simp only [Lit.wf, IntKind.min, IntKind.max, IntKind.signed, IntKind.bits, Bool.and_eq_true, decide_eq_true_eq] at h
  unfold inI64
  constructor
  · have := h.1; simpa using this
  · have := h.2; simp at this; omega

section
variable {H : Type} (enc : TypeId × Value → H) (P : Program) (w : World)
/-- What reads as data of a type is told by e. -/
def Rd (t : TypeId) {α : Type} (e : α → List AV) (ok : α → Prop) : Prop :=
  ∀ fuel cells d p, DataW.trod enc P w 0 (fun _ => true) true fuel t cells = some (d, p) → ∃ a, ok a ∧ RVs (imM w) (e a) cells
end

section
variable {H : Type} {enc : TypeId × Value → H} {P : Program} {w : World}
theorem Rd.int {t : TypeId} (hu : P.underlying t = some (.int .i64)) : Rd enc P w t (fun n : Int => [.int .i64 n]) inI64 := by
  intro fuel cells d p e
  cases fuel with
  | zero => simp [DataW.trod] at e
  | succ fuel =>
    unfold DataW.trod at e
    rw [hu] at e
    split at e <;> first | (simp at *; done) | skip
    rename_i k k' n hk
    injection hk with hk; injection hk with hk; subst hk
    split at e
    · rename_i hh; obtain ⟨rfl, hw⟩ := hh; exact ⟨n, wf_inI64 hw, .cons rfl .nil⟩
    · cases e
theorem Rd.bool {t : TypeId} (hu : P.underlying t = some .bool) : Rd enc P w t (fun b : Bool => [.bool b]) (fun _ => True) := by
  intro fuel cells d p e
  cases fuel with
  | zero => simp [DataW.trod] at e
  | succ fuel =>
    unfold DataW.trod at e
    rw [hu] at e
    split at e <;> first | (simp at *; done) | skip
    exact ⟨_, trivial, .cons rfl .nil⟩
theorem Rd.str {t : TypeId} (hu : P.underlying t = some .string) : Rd enc P w t (fun s : ByteArray => [.str s]) (fun s => s.size ≤ maxLen) := by
  intro fuel cells d p e
  cases fuel with
  | zero => simp [DataW.trod] at e
  | succ fuel =>
    unfold DataW.trod at e
    rw [hu] at e
    split at e <;> first | (simp at *; done) | skip
    rename_i s hs
    split at e
    · rename_i hh; exact ⟨s, hh, .cons rfl .nil⟩
    · cases e

theorem mapM_at {α β : Type} {f : α → Option β} : ∀ {l : List α} {r : List β}, l.mapM f = some r → r.length = l.length ∧ ∀ (i : Nat) x, l[i]? = some x → ∃ y, f x = some y ∧ r[i]? = some y
  | [], r, e => by simp at e; subst e; exact ⟨rfl, fun i x h => by simp at h⟩
  | a :: l, r, e => by
    simp only [List.mapM_cons, Option.bind_eq_bind, Option.bind_eq_some_iff, Option.pure_def, Option.some.injEq] at e
    obtain ⟨b, hb, bs, hbs, rfl⟩ := e
    obtain ⟨h1, h2⟩ := mapM_at hbs
    refine ⟨by simp [h1], fun i x hi => ?_⟩
    cases i with
    | zero => simp at hi; subst hi; exact ⟨b, hb, rfl⟩
    | succ i => simp at hi; simpa using h2 i x hi
/-- Cells that are there. -/
theorem cells_at {b o z : Nat} {s : Option Nat} {i : Nat} {cs : List Value} (hz : 0 < z) (e : w.cells? 0 ((⟨b, o, s⟩ : Addr).add (i * z)) z = some cs) (hs : i = 0 ∨ s = none) :
    s = none ∧ ∃ arr el fz, w.heap[b]? = some (.cells arr el fz) ∧ o + i * z + z ≤ arr.size ∧ cs = (arr.toList.drop (o + i * z)).take z := by
  unfold World.cells? at e
  rw [if_pos (Nat.zero_le _)] at e
  obtain ⟨h1, h2⟩ := mapM_at e
  have hs' : s = none := by
    rcases hs with rfl | hs
    · obtain ⟨y, hy, _⟩ := h2 0 0 (by rw [List.getElem?_range hz])
      simp only [Nat.zero_mul, Addr.add, if_true, World.cell?] at hy
      split at hy
      · split at hy
        · cases hy
        · rename_i hh; simpa using hh
      · cases hy
    · exact hs
  subst hs'
  refine ⟨rfl, ?_⟩
  have key : ∀ j, j < z → ∃ y, w.cell? ⟨b, o + i * z + j, none⟩ = some y ∧ cs[j]? = some y := by
    intro j hj
    obtain ⟨y, hy, hc⟩ := h2 j j (by rw [List.getElem?_range hj])
    rw [addr_add, addr_add] at hy
    exact ⟨y, hy, hc⟩
  obtain ⟨arr, el, fz, hb⟩ : ∃ arr el fz, w.heap[b]? = some (.cells arr el fz) := by
    obtain ⟨y, hy, _⟩ := key 0 hz
    unfold World.cell? at hy
    dsimp only at hy
    split at hy
    · rename_i c e2 f2 hh; exact ⟨c, e2, f2, hh⟩
    · cases hy
  refine ⟨arr, el, fz, hb, ?_, ?_⟩
  · obtain ⟨y, hy, _⟩ := key (z - 1) (by omega)
    rw [cell_at hb] at hy
    have := (Array.getElem?_eq_some_iff.1 hy).1
    omega
  · apply List.ext_getElem?
    intro j
    rw [List.getElem?_take, List.getElem?_drop]
    split
    · rename_i hj
      obtain ⟨y, hy, hc⟩ := key j hj
      rw [cell_at hb] at hy
      rw [hc]; simpa using hy.symm
    · rename_i hj
      rw [List.getElem?_eq_none]
      rw [h1, List.length_range]; omega

theorem flat_len {α : Type} {e : α → List AV} {z : Nat} (hz : ∀ a, (e a).length = z) : ∀ L : List α, (L.flatMap e).length = L.length * z
  | [] => by simp
  | a :: L => by rw [List.flatMap_cons, List.length_append, hz, flat_len hz L, List.length_cons, Nat.succ_mul]; omega
theorem Rd.slice {t el : TypeId} {z : Nat} (hu : P.underlying t = some (.slice el)) (hz : P.cellsOf el = z) (hz0 : 0 < z) {α : Type} {e : α → List AV} {ok : α → Prop} (he : ∀ a, (e a).length = z) (r : Rd enc P w el e ok) :
    Rd enc P w t (fun L : List α => [.lst L.length (L.flatMap e)]) (fun L => L.length ≤ maxLen ∧ ∀ a ∈ L, ok a) := by
  intro fuel cells d p e0
  cases fuel with
  | zero => simp [DataW.trod] at e0
  | succ fuel =>
    unfold DataW.trod at e0
    rw [hu] at e0
    split at e0 <;> first | (simp at *; done) | skip
    · exact ⟨[], ⟨Nat.zero_le _, fun _ h => (by cases h)⟩, .cons ⟨none, 0, rfl, Nat.le_refl _, .inl rfl⟩ .nil⟩
    · rename_i el' a len cap hh
      injection hh with hh; injection hh with hh; subst hh
      rw [hz] at e0
      dsimp only at e0
      split at e0
      · rename_i hb
        obtain ⟨_, hlc, hcm⟩ := hb
        simp only [Option.bind_eq_some_iff, Option.map_eq_some_iff] at e0
        obtain ⟨elems, hel, rest, hr, _⟩ := e0
        obtain ⟨h1, h2⟩ := mapM_at hel
        obtain ⟨b, o, s⟩ := a
        have at0 : ∀ i, i < len → s = none ∧ ∃ arr ee fz cs, w.heap[b]? = some (.cells arr ee fz) ∧ o + i * z + z ≤ arr.size ∧ cs = (arr.toList.drop (o + i * z)).take z ∧ ∃ a, ok a ∧ RVs (imM w) (e a) cs := by
          intro i hi
          have hs : s = none := by
            obtain ⟨y, hy, _⟩ := h2 0 0 (by rw [List.getElem?_range (by omega)])
            simp only [Option.bind_eq_some_iff] at hy
            obtain ⟨cs, hc, _⟩ := hy
            exact (cells_at hz0 hc (.inl rfl)).1
          obtain ⟨y, hy, _⟩ := h2 i i (by rw [List.getElem?_range hi])
          simp only [Option.bind_eq_some_iff] at hy
          obtain ⟨cs, hc, hy⟩ := hy
          obtain ⟨_, arr, ee, fz, k1, k2, k3⟩ := cells_at hz0 hc (.inr hs)
          exact ⟨hs, arr, ee, fz, cs, k1, k2, k3, r _ _ _ _ hy⟩
        by_cases hl0 : len = 0
        · subst hl0
          exact ⟨[], ⟨Nat.zero_le _, fun _ h => (by cases h)⟩, .cons ⟨_, cap, rfl, hlc, .inl rfl⟩ .nil⟩
        · obtain ⟨rfl, arr, ee, fz, _, hblk, _, _, _⟩ := at0 0 (by omega)
          have build : ∀ n, n ≤ len → ∃ L : List α, L.length = n ∧ (∀ a ∈ L, ok a) ∧ (n = 0 ∨ o + n * z ≤ arr.size) ∧ RVs (imM w) (L.flatMap e) ((arr.toList.drop o).take (n * z)) := by
            intro n
            induction n with
            | zero => intro _; exact ⟨[], rfl, fun _ h => (by cases h), .inl rfl, by simp [RVs]⟩
            | succ n ih =>
              intro hn
              obtain ⟨L, g1, g2, g3, g4⟩ := ih (by omega)
              obtain ⟨_, arr', ee', fz', cs, k1, k2, k3, a, ka, kr⟩ := at0 n (by omega)
              rw [hblk] at k1; injection k1 with k1; injection k1 with k1 _ _; subst k1
              refine ⟨L ++ [a], by simp [g1], fun x hx => ?_, .inr (by rw [Nat.succ_mul]; omega), ?_⟩
              · rcases List.mem_append.1 hx with hx | hx
                · exact g2 x hx
                · simp at hx; subst hx; exact ka
              · rw [List.flatMap_append, List.flatMap_singleton]
                have : (arr.toList.drop o).take ((n + 1) * z) = (arr.toList.drop o).take (n * z) ++ (arr.toList.drop (o + n * z)).take z := by
                  rw [Nat.succ_mul, List.take_add, List.drop_drop]
                rw [this, ← k3]
                exact g4.append kr
          obtain ⟨L, g1, g2, g3, g4⟩ := build len (Nat.le_refl _)
          refine ⟨L, ⟨by omega, g2⟩, .cons ⟨_, cap, by rw [g1], by omega, .inr ⟨b, o, arr, rfl, ?_, ?_, ?_⟩⟩ .nil⟩
          · show allIm w b = _; unfold allIm; rw [hblk]
          · rw [flat_len he, g1]; omega
          · rw [flat_len he, g1]
            exact g4
      · cases e0

/-- The fields of a struct, from a place on. -/
def RdF (enc : TypeId × Value → H) (P : Program) (w : World) (fs : List Field) (off tot : Nat) {α : Type} (e : α → List AV) (ok : α → Prop) : Prop :=
  ∀ fuel (cs : List Value) xs, cs.length = tot → (fs.mapM fun f => DataW.trod enc P w 0 (fun _ => true) true fuel f.type ((cs.drop f.offset).take (P.cellsOf f.type))) = some xs → ∃ a, ok a ∧ RVs (imM w) (e a) (cs.drop off)
theorem RdF.nil {tot : Nat} : RdF enc P w [] tot tot (fun _ : Unit => []) (fun _ => True) := by
  intro fuel cs xs hl _
  exact ⟨(), trivial, by rw [List.drop_of_length_le (by omega)]; rfl⟩
theorem RdF.cons {f : Field} {fs : List Field} {off tot n : Nat} (ho : f.offset = off) (hn : P.cellsOf f.type = n) {α β : Type} {e1 : α → List AV} {ok1 : α → Prop} {e2 : β → List AV} {ok2 : β → Prop}
    (r1 : Rd enc P w f.type e1 ok1) (r2 : RdF enc P w fs (off + n) tot e2 ok2) : RdF enc P w (f :: fs) off tot (fun ab : α × β => e1 ab.1 ++ e2 ab.2) (fun ab => ok1 ab.1 ∧ ok2 ab.2) := by
  intro fuel cs xs hl e
  simp only [List.mapM_cons, Option.bind_eq_bind, Option.bind_eq_some_iff, Option.pure_def, Option.some.injEq] at e
  obtain ⟨y, hy, ys, hys, _⟩ := e
  obtain ⟨a, ka, ra⟩ := r1 _ _ _ _ hy
  obtain ⟨b, kb, rb⟩ := r2 _ cs ys hl hys
  refine ⟨(a, b), ⟨ka, kb⟩, ?_⟩
  rw [ho, hn] at ra
  have := ra.append rb
  rwa [← List.drop_drop, List.take_append_drop] at this
theorem Rd.struct {t : TypeId} {fs : Array Field} {l : List Field} {tot : Nat} (hu : P.underlying t = some (.struct fs)) (hl : fs.toList = l) (ht : P.cellsOf t = tot) {α : Type} {e : α → List AV} {ok : α → Prop} (r : RdF enc P w l 0 tot e ok) : Rd enc P w t e ok := by
  intro fuel cells d p e0
  cases fuel with
  | zero => simp [DataW.trod] at e0
  | succ fuel =>
    unfold DataW.trod at e0
    rw [hu] at e0
    split at e0 <;> first | (simp at *; done) | skip
    rename_i fs' hh
    injection hh with hh; injection hh with hh; subst hh
    split at e0
    · rename_i hlen
      simp only [Option.map_eq_some_iff] at e0
      obtain ⟨xs, hx, _⟩ := e0
      rw [hl] at hx
      obtain ⟨a, ka, ra⟩ := r fuel _ xs (by rw [hlen, ht]) hx
      exact ⟨a, ka, by simpa using ra⟩
    · cases e0
theorem Rd.map {t : TypeId} {α β : Type} {e : α → List AV} {ok : α → Prop} {e' : β → List AV} {ok' : β → Prop} (g : α → β) (r : Rd enc P w t e ok) (he : ∀ a, e a = e' (g a)) (hok : ∀ a, ok a → ok' (g a)) : Rd enc P w t e' ok' := by
  intro fuel cells d p h
  obtain ⟨a, ka, ra⟩ := r fuel cells d p h
  exact ⟨g a, hok a ka, he a ▸ ra⟩

/-- A statement's function that says true of what reads as data. -/
theorem says_true {f : FuncId} {ds : List AV} {args : Array Value} (F : Fun P f ds (.bool true) []) (ha : RVs (imM w) ds args.toList) :
    Calls P f args w (fun e w' => e = .returned (.bool true) ∧ Go.RowKit.Below w.heap.size w w') := by
  refine callsIn_wide.1 (CallsIn.mono (F.call 0 w (allIm w) args ha (allIm_ok w)) fun e w' hb => ?_)
  obtain ⟨v, M', he, R', hv, _⟩ := hb
  cases hv
  exact ⟨he, R'.below⟩
end
end Go.Ai
