/- A region that draws its order: whatever order is drawn, it comes to what the written order comes to. -/
import Derived.Test.YthllmdjcogjkoaaDoorAi15
namespace Go.Ai
set_option linter.unusedSimpArgs false
set_option linter.unusedVariables false
section
variable {P : Program} {inv : Inv} {ops : Array Oper} {st : Nat → St} {ws : Nat → List Nat} {ns : List Info} {ds : List (Nat × List Nat)}
variable {B : Nat} {w0 w : World} {M0 M : Mp} {X0 X : Nat → Option AO} {S : Nat → Prop} {a : Act}

/-- What stands when the operations S have been carried out. -/
structure DI (ops : Array Oper) (st : Nat → St) (ws : Nat → List Nat) (B : Nat) (w0 : World) (M0 : Mp) (X0 : Nat → Option AO) (S : Nat → Prop) (M : Mp) (X : Nat → Option AO) (a : Act) (w : World) : Prop where
  le : M0.le M
  dom : ∀ id q, M id = some q → M0 id = some q ∨ ∃ j, j < ops.size ∧ S j ∧ (st j).h.n ≤ id ∧ id < (st (j + 1)).h.n
  rel : Rel B w0 M X w
  heap : ∀ id q p, M id = some q → id < (st ops.size).h.n → p ≤ ops.size → Good (Wr ops st ws id) S p → X id = (st p).h.get id
  out : ∀ id q, M id = some q → (st ops.size).h.n ≤ id → X id = X0 id
  tmp : ∀ t p, p ≤ ops.size → Good (Wt ops t) S p → RV M ((st p).tm.getD t undefA) (a.tmps.getD t undef)
  dfr : RDs M (st 0).df a.defers
  len : a.tmps.size = (st 0).tm.length

theorem Stp.dom' {h h' : AH} {Y : Nat → Option AO} {M' : Mp} {w' : World} (s : Stp B w0 M h h' Y M' w') {id : Nat} {q : Pt} (e : M' id = some q) : M id = some q ∨ (M id = none ∧ h.n ≤ id ∧ id < h'.n) := by
  cases hm : M id with
  | some q2 => rw [s.le.1 _ _ hm] at e; exact .inl e
  | none =>
    refine .inr ⟨rfl, ?_⟩
    by_cases hr : id < h.n ∨ h'.n ≤ id
    · rw [s.dom id hm hr] at e; cases e
    · omega

theorem DI.next (C : RCtx P inv ops st ws ns ds) (D : DI ops st ws B w0 M0 X0 S M X a w) {i : Nat} {o : Oper} (ho : ops[i]? = some o) (hi : ¬ S i) (closed : ∀ j, S j → ∀ k, bef ops k j → S k)
    {v : AV} (htm : (st (i + 1)).tm = putA (st i).tm o.dst v) {v' : Value} {M' : Mp} {X' : Nat → Option AO} {w' : World} {h h' : AH} (e1 : h.n = (st i).h.n) (e2 : h'.n = (st (i + 1)).h.n)
    (sp : Stp B w0 M h h' X' M' w') (hv : RV M' v v') (x1 : ∀ id, Wr ops st ws id i → X' id = (st (i + 1)).h.get id) (x2 : ∀ id q, ¬ Wr ops st ws id i → M id = some q → X' id = X id) :
    DI ops st ws B w0 M0 X0 (fun j => S j ∨ j = i) M' X' (a.put o.dst v') w' := by
  have hlt : i < ops.size := (Array.getElem?_eq_some_iff.1 ho).1
  have isW : ∀ {id : Nat}, h.n ≤ id → id < h'.n → Wr ops st ws id i := fun h1 h2 => ⟨hlt, .inr ⟨by omega, by omega⟩⟩
  refine ⟨D.le.trans sp.le, ?_, sp.rel, ?_, ?_, ?_, ?_, ?_⟩
  · intro id q hq
    rcases sp.dom' hq with hm | ⟨_, h1, h2⟩
    · rcases D.dom id q hm with h | ⟨j, h1, h2, h3⟩
      · exact .inl h
      · exact .inr ⟨j, h1, .inl h2, h3⟩
    · exact .inr ⟨i, hlt, .inr rfl, by omega, by omega⟩
  · intro id q p hq hid hp good
    by_cases hw : Wr ops st ws id i
    · have hip : i < p := (good i hw).2 (.inr rfl)
      rw [x1 id hw]
      refine (C.chain (by omega) hp fun j h1 h2 hj => ?_).symm
      have hs := (good j hj).1 h2
      rcases hs with hs | rfl
      · exact hi (closed j hs i (C.conf hw hj (by omega)))
      · omega
    · rcases sp.dom' hq with hm | ⟨_, h1, h2⟩
      · rw [x2 id q hw hm]
        refine D.heap id q p hm hid hp fun j hj => ?_
        have := good j hj
        have hne : j ≠ i := fun e => hw (e ▸ hj)
        rw [this]; simp [hne]
      · exact absurd (isW h1 h2) hw
  · intro id q hq hid
    have hw : ¬ Wr ops st ws id i := by
      rintro ⟨_, h1 | h1⟩
      · have := (C.one ho).2.2.1 id h1
        have := C.mono (show i ≤ ops.size by omega) (Nat.le_refl _)
        omega
      · have := C.mono (show i + 1 ≤ ops.size by omega) (Nat.le_refl _)
        omega
    rcases sp.dom' hq with hm | ⟨_, h1, h2⟩
    · rw [x2 id q hw hm]; exact D.out id q hm hid
    · exact absurd (isW h1 h2) hw
  · intro t p hp good
    by_cases hd : o.dst = some t
    · have hip : i < p := (good i ⟨o, ho, hd⟩).2 (.inr rfl)
      rw [C.chainT (show i + 1 ≤ p by omega) hp fun j h1 h2 hj => ?_]
      · rw [htm, hd]
        have hl := D.len
        have hl2 := C.len (show i ≤ ops.size by omega)
        simp only [putA, Act.put, List.getD_eq_getElem?_getD, Array.getD_eq_getD_getElem?]
        by_cases ht : t < (st i).tm.length
        · rw [List.getElem?_set_self ht, Array.getElem?_setIfInBounds_self_of_lt (by omega)]; exact hv
        · rw [List.getElem?_eq_none (by simpa using ht), Array.getElem?_eq_none (by simp; omega)]; exact .undef
      · obtain ⟨oj, hoj, hdj⟩ := hj
        have hs := (good j ⟨oj, hoj, hdj⟩).1 h2
        rcases hs with hs | rfl
        · rcases (C.regAt hoj).2.2 i o (by omega) ho with hb | hap
          · exact hi (closed j hs i hb)
          · exact (Oper.apart_spec hap).2.1 t hd hdj
        · omega
    · have := D.tmp t p hp fun j hj => by
        have h1 := good j hj
        have hne : j ≠ i := fun e => by
          obtain ⟨oj, hoj, hdj⟩ := hj
          subst e; rw [ho] at hoj; injection hoj with hoj; subst hoj; exact hd hdj
        rw [h1]; simp [hne]
      have e : (a.put o.dst v').tmps.getD t undef = a.tmps.getD t undef := by
        cases hdd : o.dst with
        | none => rfl
        | some d =>
          have hne : d ≠ t := fun e => hd (e ▸ hdd)
          simp [Act.put, Array.getD_eq_getD_getElem?, Array.getElem?_setIfInBounds_ne hne]
      rw [e]; exact this.mono sp.le
  · rw [put_defers]; exact D.dfr.mono sp.le
  · rw [← D.len]; cases o.dst <;> simp [Act.put]

theorem DI.step (C : RCtx P inv ops st ws ns ds) (D : DI ops st ws B w0 M0 X0 S M X a w) (hM0 : ∀ id, (st 0).h.n ≤ id → id < (st ops.size).h.n → M0 id = none) {i : Nat} {o : Oper} (ho : ops[i]? = some o) (hi : ¬ S i)
    (closed : ∀ j, S j → ∀ k, bef ops k j → S k) (pred : ∀ k, bef ops k i → S k) {ro : Option Nat} {n : Nat} {K : Act → World → Prop} {Q : Exit → Act → World → Prop}
    (k : ∀ M' X' a' w', DI ops st ws B w0 M0 X0 (fun j => S j ∨ j = i) M' X' a' w' → K a' w') : Taken ro n P ops o a w K Q := by
  have hlt : i < ops.size := (Array.getElem?_eq_some_iff.1 ho).1
  have look : ∀ t ∈ o.looksAt ops, RV M ((st i).tm.getD t undefA) (a.tmps.getD t undef) := by
    intro t ht
    refine D.tmp t i (by omega) fun j ⟨oj, hoj, hdj⟩ => ?_
    rcases Nat.lt_trichotomy j i with h | h | h
    · refine ⟨fun _ => ?_, fun _ => h⟩
      rcases (C.regAt ho).2.2 j oj h hoj with hb | hap
      · exact pred j hb
      · exact absurd ht ((Oper.apart_spec hap).1 t hdj)
    · subst h; exact ⟨fun h => absurd h (Nat.lt_irrefl _), fun h => absurd h hi⟩
    · refine ⟨fun h2 => by omega, fun hs => ?_⟩
      rcases (C.regAt hoj).2.2 i o h ho with hb | hap
      · exact absurd (closed j hs i hb) hi
      · exact absurd ht ((Oper.apart_spec hap).2.2 t hdj)
  have disj : ∀ {j id : Nat}, j < ops.size → (st j).h.n ≤ id → id < (st (j + 1)).h.n → (st i).h.n ≤ id → id < (st (i + 1)).h.n → j = i := by
    intro j id hj h1 h2 h3 h4
    rcases Nat.lt_trichotomy j i with h | h | h
    · have := C.mono (show j + 1 ≤ i by omega) (by omega); omega
    · exact h
    · have := C.mono (show i + 1 ≤ j by omega) (by omega); omega
  have hMi : ∀ id, (st i).h.n ≤ id → id < (st (i + 1)).h.n → M id = none := by
    intro id h1 h2
    cases hm : M id with
    | none => rfl
    | some q =>
      rcases D.dom id q hm with h | ⟨j, hj, hs, h3, h4⟩
      · have := C.mono (show 0 ≤ i by omega) (by omega)
        have := C.mono (show i + 1 ≤ ops.size by omega) (Nat.le_refl _)
        rw [hM0 id (by omega) (by omega)] at h; cases h
      · exact absurd (disj hj h3 h4 h1 h2 ▸ hs) hi
  -- who made a block that is there has been carried out
  have made : ∀ {d id : Nat} {q : Pt}, M id = some q → d < ops.size → (st d).h.n ≤ id → id < (st (d + 1)).h.n → S d := by
    intro d id q hm hd h1 h2
    rcases D.dom id q hm with h | ⟨j, hj, hs, h3, h4⟩
    · have := C.mono (show 0 ≤ d by omega) (by omega)
      have := C.mono (show d + 1 ≤ ops.size by omega) (Nat.le_refl _)
      rw [hM0 id (by omega) (by omega)] at h; cases h
    · have : j = d := by
        rcases Nat.lt_trichotomy j d with h | h | h
        · have := C.mono (show j + 1 ≤ d by omega) (by omega); omega
        · exact h
        · have := C.mono (show d + 1 ≤ j by omega) (by omega); omega
      exact this ▸ hs
  obtain ⟨s1, g1, g2, g3, g4, g5, g6⟩ := C.at ho
  have hget : ∀ id, s1.h.get id = (st (i + 1)).h.get id := fun id => by unfold AH.get; rw [g4]
  let Y : Nat → Option AO := fun id => match M id with | some _ => X id | none => (st i).h.get id
  have hY : ∀ id q, M id = some q → Y id = X id := fun id q h => by simp only [Y, h]
  have hY0 : ∀ id, M id = none → Y id = (st i).h.get id := fun id h => by simp only [Y, h]
  have RY : Rel B w0 M Y w := D.rel.congr hY
  have hwfi := C.wf i (by omega)
  by_cases hl : ∃ l, wantedA ops o (st i).tm = some false ∨ lightA (evalA (st i).tm) o.op = some l
  · obtain ⟨l, hl⟩ := hl
    obtain ⟨q1, q2, q3, q4, v, q5, q6⟩ := stepL g1 (C.regAt ho).2.1 hwfi hl
    obtain ⟨hws, _⟩ := C.light ho hl
    refine q6 look RY (fun id h1 h2 => hMi id h1 (g5 ▸ h2)) (fun hwant id hid hidn => ?_) fun v' M' w' sp hv => ?_
    · show Y id = (st i).h.get id
      have hidn : id < (st i).h.n := hidn
      cases hm : M id with
      | none => exact hY0 id hm
      | some q =>
        rw [hY id q hm]
        have := C.mono (show i ≤ ops.size by omega) (Nat.le_refl _)
        refine D.heap id q i hm (by omega) (by omega) fun d hd => ?_
        have hl2 : lightA (evalA (st i).tm) o.op = some l := by
          rcases hl with hl | hl
          · rw [show wantedA ops o (st i).tm = some true from hwant] at hl; cases hl
          · exact hl
        obtain ⟨hdl, hd⟩ := hd
        by_cases hdi : d = i
        · subst hdi
          rcases hd with hd | hd
          · rw [hws] at hd; cases hd
          · omega
        · rcases hd with hd | hd
          · rcases C.beside hdl hd ho (Ne.symm hdi) with ⟨h1, h2⟩ | ⟨h1, h2⟩ | h1 | ⟨l2, h1, h2, _⟩ | ⟨h1, h2, h3⟩
            · exact ⟨fun _ => pred d h2, fun _ => h1⟩
            · exact ⟨fun h => by omega, fun hs => absurd (closed d hs i h2) hi⟩
            · simp only [lightA, h1, if_true, Option.some.injEq] at hl2
              rw [← hl2] at hid; cases hid
            · unfold lightA at hl2
              split at hl2
              · injection hl2 with hl2; rw [← hl2] at hid; cases hid
              · rw [h1] at hl2; injection hl2 with hl2; subst hl2; exact absurd hid h2
            · have := (C.one ho).1; omega
          · have hs := made hm hdl hd.1 hd.2
            have hdlt : d < i := by
              rcases Nat.lt_or_ge d i with h | h
              · exact h
              · have := C.mono h (by omega); omega
            exact ⟨fun _ => hs, fun _ => hdlt⟩
    · refine k M' _ _ w' (DI.next C D ho hi closed (g2.trans q5) (h := bare (st i).h) (h' := s1.h) rfl g5.symm sp hv (fun id hw => ?_) fun id q hw hm => ?_)
      · obtain ⟨_, hw⟩ := hw
        rcases hw with hw | hw
        · rw [hws] at hw; cases hw
        · unfold ovw
          rw [if_pos ⟨hw.1, g5 ▸ hw.2⟩]; exact hget id
      · unfold ovw
        rw [if_neg (fun h => hw ⟨hlt, .inr ⟨h.1, g5 ▸ h.2⟩⟩)]
        exact hY id q hm
  · have nol : ∀ l, lightA (evalA (st i).tm) o.op ≠ some l := fun l h => hl ⟨l, .inr h⟩
    obtain ⟨q1, q2, q4, v, q5, q6⟩ := stepS C.ok g1 (C.regAt ho).2.1 hwfi
    have agree : ∀ id, id < (st i).h.n → Y id = (st i).h.get id := by
      intro id hidn
      cases hm : M id with
      | none => exact hY0 id hm
      | some q =>
        rw [hY id q hm]
        have := C.mono (show i ≤ ops.size by omega) (Nat.le_refl _)
        refine D.heap id q i hm (by omega) (by omega) fun d hd => ?_
        obtain ⟨hdl, hd⟩ := hd
        by_cases hdi : d = i
        · subst hdi; exact ⟨fun h => absurd h (Nat.lt_irrefl _), fun h => absurd h hi⟩
        · rcases hd with hd | hd
          · rcases C.beside hdl hd ho (Ne.symm hdi) with ⟨h1, h2⟩ | ⟨h1, h2⟩ | h1 | ⟨l2, h1, h2, _⟩ | ⟨h1, h2, h3⟩
            · exact ⟨fun _ => pred d h2, fun _ => h1⟩
            · exact ⟨fun h => by omega, fun hs => absurd (closed d hs i h2) hi⟩
            · exact absurd (by simp [lightA, h1]) (nol [])
            · obtain ⟨l', hl'⟩ := lightA_of_reads h1; exact absurd hl' (nol l')
            · have := (C.one ho).1; omega
          · have hs := made hm hdl hd.1 hd.2
            have hdlt : d < i := by
              rcases Nat.lt_or_ge d i with h | h
              · exact h
              · have := C.mono h (by omega); omega
            exact ⟨fun _ => hs, fun _ => hdlt⟩
    refine q6 look RY (fun id h1 h2 => hMi id h1 (g5 ▸ h2)) agree fun v' M' w' sp hv => ?_
    refine k M' _ _ w' (DI.next C D ho hi closed (g2.trans q5) (h := bare (st i).h) (h' := s1.h) rfl g5.symm sp hv (fun id hw => ?_) fun id q hw hm => ?_)
    · unfold ovr
      have hone := C.one ho
      have hidl : id < s1.h.n := by
        rw [← g5]
        obtain ⟨_, hw | hw⟩ := hw
        · have := hone.2.2.1 id hw; omega
        · exact hw.2
      rw [if_pos hidl]; exact hget id
    · unfold ovr
      by_cases hidl : id < s1.h.n
      · rw [if_pos hidl, hget]
        have hidn : id < (st i).h.n := by
          rcases Nat.lt_or_ge id (st i).h.n with h | h
          · exact h
          · exact absurd ⟨hlt, .inr ⟨h, g5 ▸ hidl⟩⟩ hw
        rw [(C.one ho).2.1 id hidn fun h => hw ⟨hlt, .inl h⟩, ← agree id hidn]
        exact hY id q hm
      · rw [if_neg hidl]; exact hY id q hm

/-! ### All of them -/
def cnt : List Bool → Nat
  | [] => 0
  | b :: l => (if b then 0 else 1) + cnt l
theorem cnt_set : ∀ {l : List Bool} {i : Nat}, l[i]? = some false → cnt (l.set i true) + 1 = cnt l
  | [], _, h => by simp at h
  | b :: l, 0, h => by simp at h; subst h; simp [cnt]; omega
  | b :: l, i + 1, h => by simp at h; have := cnt_set h; simp only [List.set_cons_succ, cnt]; omega
theorem cnt_zero : ∀ {l : List Bool}, cnt l = 0 → ∀ {i : Nat} {b : Bool}, l[i]? = some b → b = true
  | [], _, i, b, h => by simp at h
  | c :: l, hc, 0, b, h => by simp at h; subst h; cases c <;> simp [cnt] at hc ⊢
  | c :: l, hc, i + 1, b, h => by simp at h; simp only [cnt] at hc; exact cnt_zero (by omega) h
theorem cnt_replicate (n : Nat) : cnt (List.replicate n false) = n := by
  induction n with
  | zero => rfl
  | succ n ih => simp only [List.replicate_succ, cnt, ih]; simp; omega

theorem DI.congrS {T : Nat → Prop} (D : DI ops st ws B w0 M0 X0 S M X a w) (e : ∀ j, j < ops.size → (S j ↔ T j)) : DI ops st ws B w0 M0 X0 T M X a w where
  le := D.le
  dom := fun id q h => (D.dom id q h).imp_right fun ⟨j, h1, h2, h3⟩ => ⟨j, h1, (e j h1).1 h2, h3⟩
  rel := D.rel
  heap := fun id q p h1 h2 h3 h4 => D.heap id q p h1 h2 h3 fun j hj => (h4 j hj).trans (e j hj.1).symm
  out := D.out
  tmp := fun t p h1 h2 => D.tmp t p h1 fun j hj => (h2 j hj).trans (e j (by obtain ⟨o, ho, _⟩ := hj; exact (Array.getElem?_eq_some_iff.1 ho).1)).symm
  dfr := D.dfr
  len := D.len

theorem DI.done (C : RCtx P inv ops st ws ns ds) (D : DI ops st ws B w0 M0 X0 S M X a w) (all : ∀ j, j < ops.size → S j) :
    Stp B w0 M0 (st 0).h (st ops.size).h (ovr (st ops.size).h X0) M w ∧ RA M (st ops.size) a := by
  refine ⟨⟨D.le, ?_, ?_⟩, ?_, ?_⟩
  · intro id h0 hid
    cases hm : M id with
    | none => rfl
    | some q =>
      rcases D.dom id q hm with h | ⟨j, hj, hs, h3, h4⟩
      · rw [h0] at h; cases h
      · have := C.mono (show 0 ≤ j by omega) (by omega)
        have := C.mono (show j + 1 ≤ ops.size by omega) (Nat.le_refl _)
        omega
  · refine D.rel.congr fun id q hm => ?_
    unfold ovr
    split
    · rename_i hid
      exact (D.heap id q _ hm hid (Nat.le_refl _) fun j hj => ⟨fun _ => all j hj.1, fun _ => hj.1⟩).symm
    · exact (D.out id q hm (by omega)).symm
  · have hl := D.len
    have hl2 := C.len (Nat.le_refl ops.size)
    refine RVs.of_get (by simp; omega) fun i x v h1 h2 => ?_
    have := D.tmp i ops.size (Nat.le_refl _) fun j ⟨o, ho, _⟩ => by
      have hj := (Array.getElem?_eq_some_iff.1 ho).1
      exact ⟨fun _ => all j hj, fun _ => hj⟩
    have h2' : a.tmps[i]? = some v := by simpa using h2
    rw [List.getD_eq_getElem?_getD, h1, Array.getD_eq_getD_getElem?, h2'] at this
    exact this
  · rw [C.df (Nat.le_refl _)]; exact D.dfr

theorem any_ok (C : RCtx P inv ops st ws ns ds) (hM0 : ∀ id, (st 0).h.n ≤ id → id < (st ops.size).h.n → M0 id = none) {ro : Option Nat} {n : Nat} {Q : Exit → Act → World → Prop}
    (k : ∀ M a w, Stp B w0 M0 (st 0).h (st ops.size).h (ovr (st ops.size).h X0) M w → RA M (st ops.size) a → Q .normal a w) :
    ∀ (fuel : Nat) (listed : Array Bool) (M : Mp) (X : Nat → Option AO) (a : Act) (w : World), listed.size = ops.size → cnt listed.toList ≤ fuel → DI ops st ws B w0 M0 X0 (fun j => listed[j]? = some true) M X a w →
      (∀ j, listed[j]? = some true → ∀ i, bef ops i j → listed[i]? = some true) → wpAnyIn (fen ro) n P .any ops Q fuel listed a w := by
  have allOf : ∀ (listed : Array Bool), listed.size = ops.size → Region.ready .any ops listed = [] → ∀ j, j < ops.size → listed[j]? = some true := by
    intro listed hsz hr j
    induction j using Nat.strongRecOn with
    | ind j ih =>
      intro hj
      obtain ⟨o, ho⟩ := C.getOp hj
      have hget : listed[j]? = some listed[j] := Array.getElem?_eq_getElem (by omega)
      cases hb : listed[j] with
      | true => rw [hget, hb]
      | false =>
        exfalso
        have : j ∈ Region.ready .any ops listed := by
          refine mem_ready.2 ⟨by simp [Array.getD_eq_getD_getElem?, hget, hb], o, ho, fun e he hbi => ?_⟩
          have he' := (C.regAt ho).1 e he hbi
          have := ih e.on he' (by omega)
          simp [Array.getD_eq_getD_getElem?, this]
        rw [hr] at this; cases this
  have fin : ∀ (listed : Array Bool) (M : Mp) (X : Nat → Option AO) (a : Act) (w : World), listed.size = ops.size → DI ops st ws B w0 M0 X0 (fun j => listed[j]? = some true) M X a w → Region.ready .any ops listed = [] → Q .normal a w := by
    intro listed M X a w hsz D hr
    obtain ⟨h1, h2⟩ := D.done C (allOf listed hsz hr)
    exact k M a w h1 h2
  intro fuel
  induction fuel with
  | zero =>
    intro listed M X a w hsz hc D closed
    have hz : cnt listed.toList = 0 := by omega
    have hr : Region.ready .any ops listed = [] := by
      apply List.eq_nil_iff_forall_not_mem.2
      intro j hj
      obtain ⟨h1, o, ho, _⟩ := mem_ready.1 hj
      have hjl : j < listed.size := by rw [hsz]; exact (Array.getElem?_eq_some_iff.1 ho).1
      have hget : listed[j]? = some listed[j] := Array.getElem?_eq_getElem hjl
      have := cnt_zero hz (i := j) (b := listed[j]) (by simp [hget])
      simp [Array.getD_eq_getD_getElem?, hget, this] at h1
    exact ⟨hr, fin listed M X a w hsz D hr⟩
  | succ fuel ih =>
    intro listed M X a w hsz hc D closed
    refine ⟨fin listed M X a w hsz D, fun i hir => ?_⟩
    obtain ⟨h1, o, ho, hedges⟩ := mem_ready.1 hir
    have hil : i < listed.size := by rw [hsz]; exact (Array.getElem?_eq_some_iff.1 ho).1
    have hget : listed[i]? = some listed[i] := Array.getElem?_eq_getElem hil
    have hf : listed[i]? = some false := by
      have : listed[i] = false := by simpa [Array.getD_eq_getD_getElem?, hget] using h1
      rw [hget, this]
    have hlist : ∀ e ∈ o.after, Region.binds .any e = true → listed[e.on]? = some true := by
      intro e he hb
      have := hedges e he hb
      rw [Array.getD_eq_getD_getElem?] at this
      cases hx : listed[e.on]? with
      | none => rw [hx] at this; simp at this
      | some b => rw [hx] at this; simp at this; rw [this]
    have pred : ∀ j, bef ops j i → listed[j]? = some true := by
      intro j hj
      obtain ⟨e, he, hb, hor⟩ := before_spec ho hj
      rcases hor with rfl | hor
      · exact hlist e he hb
      · exact closed e.on (hlist e he hb) j hor
    unfold wpOpIn
    rw [ho]
    have hset : ∀ j, j < ops.size → ((listed[j]? = some true ∨ j = i) ↔ (listed.setIfInBounds i true)[j]? = some true) := by
      intro j hj
      by_cases e : j = i
      · subst e; simp [hil]
      · rw [Array.getElem?_setIfInBounds_ne (Ne.symm e)]; simp [e]
    refine DI.step C D hM0 ho (by rw [hf]; simp) closed pred (K := wpAnyIn (fen ro) n P .any ops Q fuel (listed.setIfInBounds i true)) (Q := Q) (ro := ro) (n := n) fun M' X' a' w' D' => ?_
    refine ih _ M' X' a' w' (by simpa using hsz) ?_ (D'.congrS hset) ?_
    · have := cnt_set (l := listed.toList) (i := i) (by simpa using hf)
      simp only [Array.toList_setIfInBounds]; omega
    · intro j hj m hm
      have hjl : j < ops.size := by
        have := (Array.getElem?_eq_some_iff.1 hj).1
        simp at this; omega
      have hml : listed[m]? = some true := by
        rcases (hset j hjl).2 hj with h | rfl
        · exact closed j h m hm
        · exact pred m hm
      have hm2 : m < ops.size := by rw [← hsz]; exact (Array.getElem?_eq_some_iff.1 hml).1
      exact (hset m hm2).1 (.inl hml)

/-- A region that draws its order. -/
theorem regionD_ok (S : InvOk P inv) (hmix : P.follows .mixedOrders = true) (hreg : regOk ops = true) {s s' : St} (e : regionD P inv ops s = some s') (wf : s.h.WF) :
    s'.h.WF ∧ Ext s.h s'.h ∧ ∀ {n B : Nat} {w0 w : World} {M : Mp} {X : Nat → Option AO} {a : Act} {Q : Exit → Act → World → Prop} {ro : Option Nat} {id : Nat},
      RA M s a → Rel B w0 M X w → (∀ id, s.h.n ≤ id → id < s'.h.n → M id = none) → (∀ id, id < s.h.n → X id = s.h.get id) →
      (∀ a' M' w', Stp B w0 M s.h s'.h (ovr s'.h X) M' w' → RA M' s' a' → Q .normal a' w') → (Code.region id ops true).wpIn (fen ro) n P Q a w := by
  have key : ∃ ns ds, opsD P inv ops 0 ops.toList s = some (ns, ds, s') ∧ dirtyOk ops (Region.before ops) ns ds = true := by
    unfold regionD at e
    split at e
    · rename_i ns s2 h; injection e with e; subst e; exact ⟨ns, [], h, rfl⟩
    · rename_i ns ds s2 _ h
      cases hd : dirtyOk ops (Region.before ops) ns ds with
      | false => rw [hd] at e; simp at e
      | true => rw [hd] at e; simp only [cond_true, Option.some.injEq] at e; subst e; exact ⟨ns, ds, h, hd⟩
    · cases e
  obtain ⟨ns, ds, h1, h2⟩ := key
  obtain ⟨st, ws, h3, h4, h5⟩ := opsD_trace ops.toList 0 s s' ns ds h1
  simp only [Nat.zero_add, Array.length_toList] at h4 h5
  subst h3 h4
  have tr : Trace P inv ops st ws ns ds := ⟨fun j o ho => (h5 j o (by simpa using ho)).1, fun j o ho => (h5 j o (by simpa using ho)).2.1, fun j o ho => (h5 j o (by simpa using ho)).2.2⟩
  have C : RCtx P inv ops st ws ns ds := ⟨S, tr, hreg, h2, wf⟩
  have hws : ∀ q, q ≤ ops.size → (st q).h.pb = (st 0).h.pb ∧ (∀ id, id ∈ (st 0).h.ws → id ∈ (st q).h.ws) ∧ (∀ id, id ∈ (st q).h.ws → id ∈ (st 0).h.ws ∨ id < (st 0).h.pb) ∧ (∀ j, j < q → ∀ id, id ∈ ws j → id < (st 0).h.pb → id ∈ (st q).h.ws) := by
    intro q
    induction q with
    | zero => intro _; exact ⟨rfl, fun _ h => h, fun _ h => .inl h, fun j hj => by omega⟩
    | succ q ih =>
      intro hq
      obtain ⟨i1, i2, i3, i4⟩ := ih (by omega)
      obtain ⟨o, ho⟩ := C.getOp (show q < ops.size by omega)
      obtain ⟨s1, _, _, _, _, _, g1, g2, g3⟩ := tr.step q o ho
      refine ⟨g1.trans i1, fun id h => ?_, fun id h => ?_, fun j hj id h hp => ?_⟩
      · rw [g2]; exact List.mem_append_right _ (i2 id h)
      · rw [g2] at h
        rcases List.mem_append.1 h with h | h
        · have := (List.mem_filter.1 h).2
          right; rw [← i1]; simpa using this
        · exact i3 id h
      · rw [g2]
        by_cases e : j = q
        · subst e
          refine List.mem_append_left _ (List.mem_filter.2 ⟨g3 ▸ h, ?_⟩)
          rw [i1]; simpa using hp
        · exact List.mem_append_right _ (i4 j (by omega) id h hp)
  obtain ⟨e1, e2, e3, e4⟩ := hws ops.size (Nat.le_refl _)
  refine ⟨C.wf _ (Nat.le_refl _), ⟨C.mono (Nat.zero_le _) (Nat.le_refl _), e1, e2, fun id k1 k2 k3 => ?_, e3⟩, ?_⟩
  · refine C.chain (Nat.zero_le _) (Nat.le_refl _) fun j _ hj hw => ?_
    obtain ⟨_, hw | hw⟩ := hw
    · exact k3 (e4 j hj id hw k2)
    · have := C.mono (show 0 ≤ j by omega) (by omega); omega
  · intro n B w0 w M X a Q ro id r R hM agree k
    refine wpIn_region_any hmix ?_
    have D : DI ops st ws B w0 M X (fun j => (Array.replicate ops.size false)[j]? = some true) M X a { w with drawn := w.drawn + 1 } := by
      have nos : ∀ j : Nat, ¬ (Array.replicate ops.size false)[j]? = some true := by
        intro j h
        rw [Array.getElem?_replicate] at h
        split at h <;> simp at h
      refine ⟨.refl _, fun id q h => .inl h, R.drew, ?_, fun _ _ _ _ => rfl, ?_, r.df, ?_⟩
      · intro id q p hq hid hp good
        have hid0 : id < (st 0).h.n := by
          rcases Nat.lt_or_ge id (st 0).h.n with h | h
          · exact h
          · rw [hM id h hid] at hq; cases hq
        rw [agree id hid0]
        exact (C.chain (Nat.zero_le _) hp fun j _ hj hw => nos j ((good j hw).1 hj)).symm
      · intro t p hp good
        rw [C.chainT (Nat.zero_le _) hp fun j _ hj hw => nos j ((good j hw).1 hj)]
        exact r.tm.look t
      · have := r.tm.length; simpa using this.symm
    refine any_ok C hM (fun M' a' w' h1 h2 => k a' M' w' h1 h2) ops.size _ M X a _ (by simp) ?_ D fun j hj => ?_
    · rw [Array.toList_replicate, cnt_replicate]; exact Nat.le_refl _
    · rw [Array.getElem?_replicate] at hj
      split at hj <;> simp at hj
end
end Go.Ai
