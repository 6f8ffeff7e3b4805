/- Formulas checked, copied; models that satisfy: what the program and the reference answer. -/
import Derived.Test.YtjggaanpodbmpaaS2
namespace Go.Ai
open Go.Proofs
set_option linter.unusedVariables false
set_option linter.unusedSimpArgs false

theorem firstF_at {f : List Int → Int} {L : List (List Int)} {i : Nat} {l : List Int} (hl : L[i]? = some l) : firstF f i (L.drop i) = if f l ≠ 0 then ((i : Int), f l) else firstF f (i + 1) (L.drop (i + 1)) := by
  rw [drop_at hl]; rfl
/-- A literal of so many variables. -/
def litOk (n x : Int) : Prop := ¬ (x = 0 ∨ x < -n ∨ x > n)
theorem clF_ok {n : Int} (hn : 0 ≤ n ∧ n ≤ 400) : ∀ {l : List Int} {p : Int}, clF n p l = 0 → ∀ x ∈ l, litOk n x
  | [], _, _, x, hx => by cases hx
  | a :: l, p, h, x, hx => by
    simp only [clF] at h
    split at h
    · cases h
    · rename_i hb
      split at h
      · cases h
      · rcases List.mem_cons.1 hx with rfl | hx
        · exact hb
        · exact clF_ok hn h x hx
theorem clauseF_ok {n : Int} (hn : 0 ≤ n ∧ n ≤ 400) {l : List Int} (h : clauseF n l = 0) : ∀ x ∈ l, litOk n x := by
  unfold clauseF at h
  split at h
  · cases h
  · exact clF_ok hn h
theorem firstF_ok {f : List Int → Int} : ∀ {L : List (List Int)} {i : Nat}, (firstF f i L).2 = 0 → ∀ l ∈ L, f l = 0
  | [], _, _, l, hl => by cases hl
  | a :: L, i, h, l, hl => by
    simp only [firstF] at h
    split at h
    · rename_i hne; exact absurd h hne
    · rename_i he
      rcases List.mem_cons.1 hl with rfl | hl
      · simpa using he
      · exact firstF_ok h l hl
theorem checkF_ok {n : Int} {L : List (List Int)} (h : (checkF n L).2 = 0) : (0 ≤ n ∧ n ≤ 400) ∧ L.length ≤ 6000 ∧ ∀ l ∈ L, clauseF n l = 0 := by
  unfold checkF at h
  split at h
  · cases h
  · split at h
    · cases h
    · exact ⟨by omega, by omega, firstF_ok h⟩
theorem checkF_lits {n : Int} {L : List (List Int)} (h : (checkF n L).2 = 0) : ∀ l ∈ L, ∀ x ∈ l, litOk n x := fun l hl => clauseF_ok (checkF_ok h).1 ((checkF_ok h).2.2 l hl)
def holdsB (m : List Bool) (x : Int) : Bool := m.getD (absF x - 1).toNat false == decide (x > 0)
theorem lit_at {m : List Bool} {n x : Int} (hm : (m.length : Int) = n) (hn : 0 ≤ n ∧ n ≤ 400) (hx : litOk n x) : ∃ b, IntKind.i64.wrap (absF x - 1) = (((absF x - 1).toNat : Nat) : Int) ∧ (absF x - 1).toNat < m.length ∧ m[(absF x - 1).toNat]? = some b ∧ holdsB m x = (b == decide (x > 0)) ∧ inI64 x := by
  obtain ⟨h1, h2, h3, h4⟩ := absF_pos hn hx
  have hlt : (absF x - 1).toNat < m.length := by omega
  refine ⟨m[(absF x - 1).toNat], ?_, hlt, List.getElem?_eq_getElem hlt, ?_, h4⟩
  · rw [wrap64 (by omega) (by omega)]; omega
  · unfold holdsB; rw [List.getD_eq_getElem?_getD, List.getElem?_eq_getElem hlt]; rfl
def findF {α : Type} (p : α → Bool) : Nat → List α → Int
  | _, [] => -1
  | i, a :: l => if p a then (i : Int) else findF p (i + 1) l
theorem findF_at {α : Type} {p : α → Bool} {l : List α} {i : Nat} {a : α} (h : l[i]? = some a) : findF p i (l.drop i) = if p a then (i : Int) else findF p (i + 1) (l.drop (i + 1)) := by
  rw [drop_at h]; rfl
theorem findF_any {α : Type} {p : α → Bool} : ∀ {l : List α} {i : Nat}, decide (findF p i l ≥ 0) = l.any p
  | [], _ => rfl
  | a :: l, i => by
    by_cases h : p a = true
    · simp [findF, h]
    · have := findF_any (p := p) (l := l) (i := i + 1)
      simp only [findF, List.any_cons, h, Bool.false_or]; simpa using this
def satF (m : List Bool) : Nat → List (List Int) → Bool × Int
  | _, [] => (true, 0)
  | i, l :: L => if l.any (holdsB m) then satF m (i + 1) L else (false, i)
theorem satF_at {m : List Bool} {L : List (List Int)} {i : Nat} {l : List Int} (hl : L[i]? = some l) : satF m i (L.drop i) = if l.any (holdsB m) then satF m (i + 1) (L.drop (i + 1)) else (false, (i : Int)) := by
  rw [drop_at hl]; rfl
def satisfiesF (n : Int) (L : List (List Int)) (m : List Bool) : Bool × Int × Int :=
  if (checkF n L).2 ≠ 0 then (false, 0, (checkF n L).2) else if (m.length : Int) ≠ n then (false, 0, 6) else
  let b := findF (fun l => !l.any (holdsB m)) 0 L
  if (if b > -1 then b else -1) ≠ -1 then (false, (if b > -1 then b else -1), 0) else (true, 0, 0)

theorem clauseF_len {n : Int} {l : List Int} (h : clauseF n l = 0) : l.length ≤ 40 := by
  unfold clauseF at h
  split at h
  · cases h
  · omega
theorem take_any {p : Int → Bool} {l : List Int} {k : Nat} {x : Int} (h : l[k]? = some x) : (l.take (k + 1)).any p = ((l.take k).any p || p x) := by
  rw [List.take_add_one, h]; simp

set_option maxHeartbeats 4000000 in
theorem check_fun (n : Int) (L : List (List Int)) (hI : ∀ l ∈ L, ∀ x ∈ l, inI64 x) : Fun Try.prog 27 [cl n L] (.tuple [.int .i64 (checkF n L).1, .int .i64 (checkF n L).2]) [] := by
  refine fun_walk (kk := 1000000) prog_ok (show Try.prog.funcs[27]? = some Try.f27 by kernel_rfl) (show Try.f27.body = some _ from rfl) (by kernel_rfl) (by show 1 ≤ _; decide) (by simp) ?_
  refine wpE_seq fun K1 hK1 => ?_
  -- region 0
  refine wpE_gen fun ρ2 e2 => ?_
  have f2_0 := congrFun e2 0
  (simp only [go_sem] at f2_0)
  clear e2
  refine wpE_region ?_
  refine wpOs_step rfl fun K3 hK3 => ?_
  (try simp only [go_sem, f2_0])
  refine hK3 _ _ _ ?_; clear hK3 K3
  refine wpOs_step rfl fun K4 hK4 => ?_
  (try simp only [go_sem, f2_0])
  refine hK4 _ _ _ ?_; clear hK4 K4
  refine wpOs_step rfl fun K5 hK5 => ?_
  (try simp only [go_sem, f2_0])
  refine hK5 _ _ _ ?_; clear hK5 K5
  refine wpOs_end ?_
  refine hK1 _ _ _ ?_
  (try clear hK1 K1)
  refine wpE_seq fun K6 hK6 => ?_
  refine wpE_block ?_
  refine wpE_seq fun K7 hK7 => ?_
  -- region 1
  refine wpE_gen fun ρ8 e8 => ?_
  have f8_1 := congrFun e8 1
  (simp only [go_sem, f2_0] at f8_1)
  clear e8
  refine wpE_region ?_
  refine wpOs_step rfl fun K9 hK9 => ?_
  (try simp only [go_sem, f8_1])
  refine hK9 _ _ _ ?_; clear hK9 K9
  refine wpOs_step rfl fun K10 hK10 => ?_
  (try simp only [go_sem, f8_1])
  refine hK10 _ _ _ ?_; clear hK10 K10
  refine wpOs_step rfl fun K11 hK11 => ?_
  (try simp only [go_sem, f8_1])
  refine hK11 _ _ _ ?_; clear hK11 K11
  refine wpOs_step rfl fun K12 hK12 => ?_
  (try simp only [go_sem, f8_1])
  refine hK12 _ _ _ ?_; clear hK12 K12
  refine wpOs_guard rfl rfl fun K13 hK13 => ?_
  (try simp only [go_sem, f8_1])
  refine branch_by (fun d1 => ?_) (fun d1 => ?_)
  · skip
    (try simp only [go_sem, f8_1, d1])
    refine hK13 _ _ _ ?_; clear hK13 K13
    refine wpOs_guard rfl rfl fun K14 hK14 => ?_
    (try simp only [go_sem, f8_1, d1])
    refine hK14 _ _ _ ?_; clear hK14 K14
    refine wpOs_guard rfl rfl fun K15 hK15 => ?_
    (try simp only [go_sem, f8_1, d1])
    refine hK15 _ _ _ ?_; clear hK15 K15
    refine wpOs_step rfl fun K16 hK16 => ?_
    (try simp only [go_sem, f8_1, d1])
    refine hK16 _ _ _ ?_; clear hK16 K16
    refine wpOs_step rfl fun K17 hK17 => ?_
    (try simp only [go_sem, f8_1, d1])
    refine hK17 _ _ _ ?_; clear hK17 K17
    refine wpOs_end ?_
    refine hK7 _ _ _ ?_
    (try clear hK7 K7)
    refine wpE_condT (by simp only [go_sem, f8_1, d1]) ?_
    refine wpE_seq fun K18 hK18 => ?_
    -- region 2
    refine wpE_gen fun ρ19 e19 => ?_
    clear e19
    refine wpE_region ?_
    refine wpOs_step rfl fun K20 hK20 => ?_
    (try simp only [go_sem, d1])
    refine hK20 _ _ _ ?_; clear hK20 K20
    refine wpOs_step rfl fun K21 hK21 => ?_
    (try simp only [go_sem, d1])
    refine hK21 _ _ _ ?_; clear hK21 K21
    refine wpOs_end ?_
    refine hK18 _ _ _ ?_
    (try clear hK18 K18)
    refine wpE_ret ?_
    (try simp only [go_sem, d1])
    refine fin_ret2 rfl ?_
    (try simp only [go_sem, d1])
    -- leaf 0
    refine told_flat ?_ (by simp [FV, FVs])
    rw [show checkF n L = (0, 3) by unfold checkF; rw [if_pos (.inl (of_decide_eq_true d1))]]
  · skip
    (try simp only [go_sem, f8_1, d1])
    refine hK13 _ _ _ ?_; clear hK13 K13
    refine wpOs_guard rfl rfl fun K22 hK22 => ?_
    (try simp only [go_sem, f8_1, d1])
    refine hK22 _ _ _ ?_; clear hK22 K22
    refine wpOs_guard rfl rfl fun K23 hK23 => ?_
    (try simp only [go_sem, f8_1, d1])
    refine hK23 _ _ _ ?_; clear hK23 K23
    refine wpOs_step rfl fun K24 hK24 => ?_
    (try simp only [go_sem, f8_1, d1])
    refine hK24 _ _ _ ?_; clear hK24 K24
    refine wpOs_step rfl fun K25 hK25 => ?_
    (try simp only [go_sem, f8_1, d1])
    refine hK25 _ _ _ ?_; clear hK25 K25
    refine wpOs_end ?_
    refine hK7 _ _ _ ?_
    (try clear hK7 K7)
    refine wpE_cond' ?_
    (try simp only [go_sem, f8_1, d1])
    refine branch_by (fun d2 => ?_) (fun d2 => ?_)
    · skip
      refine wpE_seq fun K26 hK26 => ?_
      -- region 2
      refine wpE_gen fun ρ27 e27 => ?_
      clear e27
      refine wpE_region ?_
      refine wpOs_step rfl fun K28 hK28 => ?_
      (try simp only [go_sem, d1, d2])
      refine hK28 _ _ _ ?_; clear hK28 K28
      refine wpOs_step rfl fun K29 hK29 => ?_
      (try simp only [go_sem, d1, d2])
      refine hK29 _ _ _ ?_; clear hK29 K29
      refine wpOs_end ?_
      refine hK26 _ _ _ ?_
      (try clear hK26 K26)
      refine wpE_ret ?_
      (try simp only [go_sem, d1, d2])
      refine fin_ret2 rfl ?_
      (try simp only [go_sem, d1, d2])
      -- leaf 1
      refine told_flat ?_ (by simp [FV, FVs])
      rw [show checkF n L = (0, 3) by unfold checkF; rw [if_pos (.inr (of_decide_eq_true d2))]]
    · skip
      refine wpE_seq fun K30 hK30 => ?_
      -- region 3
      refine wpE_gen fun ρ31 e31 => ?_
      have f31_1 := congrFun e31 1
      (simp only [go_sem, f8_1, d1, d2] at f31_1)
      clear e31
      refine wpE_region ?_
      refine wpOs_step rfl fun K32 hK32 => ?_
      (try simp only [go_sem, d1, d2, f31_1])
      refine hK32 _ _ _ ?_; clear hK32 K32
      refine wpOs_step rfl fun K33 hK33 => ?_
      (try simp only [go_sem, d1, d2, f31_1])
      refine hK33 _ _ _ ?_; clear hK33 K33
      refine wpOs_step rfl fun K34 hK34 => ?_
      (try simp only [go_sem, d1, d2, f31_1])
      refine hK34 _ _ _ ?_; clear hK34 K34
      refine wpOs_step rfl fun K35 hK35 => ?_
      (try simp only [go_sem, d1, d2, f31_1])
      refine hK35 _ _ _ ?_; clear hK35 K35
      refine wpOs_step rfl fun K36 hK36 => ?_
      (try simp only [go_sem, d1, d2, f31_1])
      refine hK36 _ _ _ ?_; clear hK36 K36
      refine wpOs_end ?_
      refine hK30 _ _ _ ?_
      (try clear hK30 K30)
      refine wpE_cond' ?_
      (try simp only [go_sem, d1, d2, f31_1])
      refine branch_by (fun d3 => ?_) (fun d3 => ?_)
      · skip
        refine wpE_seq fun K37 hK37 => ?_
        -- region 4
        refine wpE_gen fun ρ38 e38 => ?_
        clear e38
        refine wpE_region ?_
        refine wpOs_step rfl fun K39 hK39 => ?_
        (try simp only [go_sem, d1, d2, d3])
        refine hK39 _ _ _ ?_; clear hK39 K39
        refine wpOs_step rfl fun K40 hK40 => ?_
        (try simp only [go_sem, d1, d2, d3])
        refine hK40 _ _ _ ?_; clear hK40 K40
        refine wpOs_end ?_
        refine hK37 _ _ _ ?_
        (try clear hK37 K37)
        refine wpE_ret ?_
        (try simp only [go_sem, d1, d2, d3])
        refine fin_ret2 rfl ?_
        (try simp only [go_sem, d1, d2, d3])
        -- leaf 2
        refine told_flat ?_ (by simp [FV, FVs])
        rw [show checkF n L = (0, 2) by unfold checkF; rw [if_neg (by have a1 := of_decide_eq_false d1; have a2 := of_decide_eq_false d2; omega), if_pos (by have := of_decide_eq_true d3; omega)]]
      · skip
        have hv : 0 ≤ n ∧ n ≤ 400 := by have a1 := of_decide_eq_false d1; have a2 := of_decide_eq_false d2; omega
        have hlen : L.length ≤ 6000 := by have := of_decide_eq_false d3; omega
        refine wpE_skip ?_
        (try simp only [go_sem])
        refine hK6 _ _ _ ?_
        (try clear hK6 K6)
        refine wpE_seq fun K41 hK41 => ?_
        refine wpE_seq fun K42 hK42 => ?_
        -- region 5
        refine wpE_gen fun ρ43 e43 => ?_
        have f43_1 := congrFun e43 1
        (simp only [go_sem, d1, d2, f31_1, d3] at f43_1)
        clear e43
        refine wpE_region ?_
        refine wpOs_step rfl fun K44 hK44 => ?_
        (try simp only [go_sem, d1, d2, d3, f43_1])
        refine hK44 _ _ _ ?_; clear hK44 K44
        refine wpOs_step rfl fun K45 hK45 => ?_
        (try simp only [go_sem, d1, d2, d3, f43_1])
        refine hK45 _ _ _ ?_; clear hK45 K45
        refine wpOs_step rfl fun K46 hK46 => ?_
        (try simp only [go_sem, d1, d2, d3, f43_1])
        refine hK46 _ _ _ ?_; clear hK46 K46
        refine wpOs_step rfl fun K47 hK47 => ?_
        (try simp only [go_sem, d1, d2, d3, f43_1])
        refine hK47 _ _ _ ?_; clear hK47 K47
        refine wpOs_end ?_
        refine hK42 _ _ _ ?_
        (try clear hK42 K42)
        refine wpE_block ?_
        refine wpE_gen fun ρ48 e48 => ?_
        have f48_1 := congrFun e48 1
        (simp only [go_sem, d1, d2, d3, f43_1] at f48_1)
        have f48_22 := congrFun e48 22
        (simp only [go_sem, d1, d2, d3, f43_1] at f48_22)
        have f48_23 := congrFun e48 23
        (simp only [go_sem, d1, d2, d3, f43_1] at f48_23)
        have f48_24 := congrFun e48 24
        (simp only [go_sem, d1, d2, d3, f43_1] at f48_24)
        clear e48
        refine wpE_loop (fun mm ρ df g => ∃ i : Nat, mm = L.length - i ∧ df = [] ∧ g = Go.Ai.hL [.cells [.int .i64 n, lls L] false] ∧ ρ 24 = .int .i64 (i : Nat) ∧ ρ 1 = ρ48 1 ∧ ρ 22 = ρ48 22 ∧ ρ 23 = ρ48 23 ∧ i ≤ L.length ∧ firstF (clauseF n) 0 L = firstF (clauseF n) i (L.drop i)) (L.length) (by omega) ⟨0, rfl, rfl, rfl, (by first | rfl | (simp only [go_sem, d1, d2, d3, f48_1, f48_22, f48_23, f48_24]; done) | (simp only [go_sem, d1, d2, d3, f48_1, f48_22, f48_23, f48_24]; rfl)), rfl, rfl, rfl, (by omega), (by rfl)⟩ ?_
        rintro m49 K49 hK49 ρ df g ⟨i, hm49, rfl, rfl, r49_24, q49_1, q49_22, q49_23, hi, hc⟩
        replace q49_1 := q49_1.trans f48_1
        replace q49_22 := q49_22.trans f48_22
        replace q49_23 := q49_23.trans f48_23
        refine wpE_seq fun K50 hK50 => ?_
        -- region 6
        refine wpE_gen fun ρ51 e51 => ?_
        have f51_1 := congrFun e51 1
        (simp only [go_sem, d1, d2, d3, r49_24, q49_1, q49_22, q49_23] at f51_1)
        have f51_22 := congrFun e51 22
        (simp only [go_sem, d1, d2, d3, r49_24, q49_1, q49_22, q49_23] at f51_22)
        have f51_23 := congrFun e51 23
        (simp only [go_sem, d1, d2, d3, r49_24, q49_1, q49_22, q49_23] at f51_23)
        have f51_24 := congrFun e51 24
        (simp only [go_sem, d1, d2, d3, r49_24, q49_1, q49_22, q49_23] at f51_24)
        clear e51
        refine wpE_region ?_
        refine wpOs_step rfl fun K52 hK52 => ?_
        (try simp only [go_sem, d1, d2, d3, r49_24, q49_1, q49_22, q49_23, f51_1, f51_22, f51_23, f51_24])
        refine hK52 _ _ _ ?_; clear hK52 K52
        refine wpOs_end ?_
        refine hK50 _ _ _ ?_
        (try clear hK50 K50)
        refine wpE_seq fun K53 hK53 => ?_
        refine wpE_cond' ?_
        (try simp only [go_sem, d1, d2, d3, r49_24, q49_1, q49_22, q49_23, f51_1, f51_22, f51_23, f51_24])
        refine branch_by (fun d4 => ?_) (fun d4 => ?_)
        · skip
          have hlt : i < L.length := by simpa using d4
          obtain ⟨l, hl⟩ := has_at hlt
          have hmem : l ∈ L := List.mem_iff_getElem?.2 ⟨i, hl⟩
          refine wpE_skip ?_
          (try simp only [go_sem])
          refine hK53 _ _ _ ?_
          (try clear hK53 K53)
          refine wpE_seq fun K54 hK54 => ?_
          refine wpE_block ?_
          refine wpE_seq fun K55 hK55 => ?_
          -- region 7
          refine wpE_gen fun ρ56 e56 => ?_
          have f56_1 := congrFun e56 1
          (simp only [go_sem, d1, d2, d3, r49_24, q49_1, q49_22, q49_23, f51_1, f51_22, f51_23, f51_24, d4, hlt, hl] at f56_1)
          have f56_22 := congrFun e56 22
          (simp only [go_sem, d1, d2, d3, r49_24, q49_1, q49_22, q49_23, f51_1, f51_22, f51_23, f51_24, d4, hlt, hl] at f56_22)
          have f56_23 := congrFun e56 23
          (simp only [go_sem, d1, d2, d3, r49_24, q49_1, q49_22, q49_23, f51_1, f51_22, f51_23, f51_24, d4, hlt, hl] at f56_23)
          have f56_24 := congrFun e56 24
          (simp only [go_sem, d1, d2, d3, r49_24, q49_1, q49_22, q49_23, f51_1, f51_22, f51_23, f51_24, d4, hlt, hl] at f56_24)
          clear e56
          refine wpE_region ?_
          refine wpOs_step rfl fun K57 hK57 => ?_
          (try simp only [go_sem, d1, d2, d3, r49_24, q49_1, q49_22, q49_23, d4, hlt, hl, f56_1, f56_22, f56_23, f56_24])
          refine hK57 _ _ _ ?_; clear hK57 K57
          refine wpOs_step rfl fun K58 hK58 => ?_
          (try simp only [go_sem, d1, d2, d3, r49_24, q49_1, q49_22, q49_23, d4, hlt, hl, f56_1, f56_22, f56_23, f56_24])
          refine hK58 _ _ _ ?_; clear hK58 K58
          refine wpOs_step rfl fun K59 hK59 => ?_
          (try simp only [go_sem, d1, d2, d3, r49_24, q49_1, q49_22, q49_23, d4, hlt, hl, f56_1, f56_22, f56_23, f56_24])
          refine hK59 _ _ _ ?_; clear hK59 K59
          refine wpOs_step rfl fun K60 hK60 => ?_
          (try simp only [go_sem, d1, d2, d3, r49_24, q49_1, q49_22, q49_23, d4, hlt, hl, f56_1, f56_22, f56_23, f56_24])
          refine hK60 _ _ _ ?_; clear hK60 K60
          refine wpOs_step rfl fun K61 hK61 => ?_
          (try simp only [go_sem, d1, d2, d3, r49_24, q49_1, q49_22, q49_23, d4, hlt, hl, f56_1, f56_22, f56_23, f56_24])
          refine hK61 _ _ _ ?_; clear hK61 K61
          refine wpOs_end ?_
          refine hK55 _ _ _ ?_
          (try clear hK55 K55)
          refine wpE_seq fun K62 hK62 => ?_
          -- region 8
          refine wpE_gen fun ρ63 e63 => ?_
          have f63_1 := congrFun e63 1
          (simp only [go_sem, d1, d2, d3, r49_24, q49_1, q49_22, q49_23, d4, hlt, hl, f56_1, f56_22, f56_23, f56_24] at f63_1)
          have f63_4 := congrFun e63 4
          (simp only [go_sem, d1, d2, d3, r49_24, q49_1, q49_22, q49_23, d4, hlt, hl, f56_1, f56_22, f56_23, f56_24] at f63_4)
          have f63_5 := congrFun e63 5
          (simp only [go_sem, d1, d2, d3, r49_24, q49_1, q49_22, q49_23, d4, hlt, hl, f56_1, f56_22, f56_23, f56_24] at f63_5)
          have f63_22 := congrFun e63 22
          (simp only [go_sem, d1, d2, d3, r49_24, q49_1, q49_22, q49_23, d4, hlt, hl, f56_1, f56_22, f56_23, f56_24] at f63_22)
          have f63_23 := congrFun e63 23
          (simp only [go_sem, d1, d2, d3, r49_24, q49_1, q49_22, q49_23, d4, hlt, hl, f56_1, f56_22, f56_23, f56_24] at f63_23)
          have f63_24 := congrFun e63 24
          (simp only [go_sem, d1, d2, d3, r49_24, q49_1, q49_22, q49_23, d4, hlt, hl, f56_1, f56_22, f56_23, f56_24] at f63_24)
          clear e63
          refine wpE_region ?_
          refine wpOs_step rfl fun K64 hK64 => ?_
          (try simp only [go_sem, d1, d2, d3, r49_24, q49_1, q49_22, q49_23, d4, hlt, hl, f63_1, f63_4, f63_5, f63_22, f63_23, f63_24])
          refine hK64 _ _ _ ?_; clear hK64 K64
          refine wpOs_step rfl fun K65 hK65 => ?_
          (try simp only [go_sem, d1, d2, d3, r49_24, q49_1, q49_22, q49_23, d4, hlt, hl, f63_1, f63_4, f63_5, f63_22, f63_23, f63_24])
          refine hK65 _ _ _ ?_; clear hK65 K65
          refine wpOs_step rfl fun K66 hK66 => ?_
          (try simp only [go_sem, d1, d2, d3, r49_24, q49_1, q49_22, q49_23, d4, hlt, hl, f63_1, f63_4, f63_5, f63_22, f63_23, f63_24])
          refine hK66 _ _ _ ?_; clear hK66 K66
          refine wpOs_step rfl fun K67 hK67 => ?_
          (try simp only [go_sem, d1, d2, d3, r49_24, q49_1, q49_22, q49_23, d4, hlt, hl, f63_1, f63_4, f63_5, f63_22, f63_23, f63_24])
          refine call_fun (clauseErr_fun n hv l (hI l hmem)) rfl rfl (fun _ => rfl) ?_
          (try simp only [go_sem, d1, d2, d3, r49_24, q49_1, q49_22, q49_23, d4, hlt, hl, f63_1, f63_4, f63_5, f63_22, f63_23, f63_24])
          refine hK67 _ _ _ ?_; clear hK67 K67
          refine wpOs_step rfl fun K68 hK68 => ?_
          (try simp only [go_sem, d1, d2, d3, r49_24, q49_1, q49_22, q49_23, d4, hlt, hl, f63_1, f63_4, f63_5, f63_22, f63_23, f63_24])
          refine hK68 _ _ _ ?_; clear hK68 K68
          refine wpOs_end ?_
          refine hK62 _ _ _ ?_
          (try clear hK62 K62)
          refine wpE_seq fun K69 hK69 => ?_
          -- region 9
          refine wpE_gen fun ρ70 e70 => ?_
          have f70_1 := congrFun e70 1
          (simp only [go_sem, d1, d2, d3, r49_24, q49_1, q49_22, q49_23, d4, hlt, hl, f63_1, f63_4, f63_5, f63_22, f63_23, f63_24] at f70_1)
          have f70_4 := congrFun e70 4
          (simp only [go_sem, d1, d2, d3, r49_24, q49_1, q49_22, q49_23, d4, hlt, hl, f63_1, f63_4, f63_5, f63_22, f63_23, f63_24] at f70_4)
          have f70_6 := congrFun e70 6
          (simp only [go_sem, d1, d2, d3, r49_24, q49_1, q49_22, q49_23, d4, hlt, hl, f63_1, f63_4, f63_5, f63_22, f63_23, f63_24] at f70_6)
          have f70_22 := congrFun e70 22
          (simp only [go_sem, d1, d2, d3, r49_24, q49_1, q49_22, q49_23, d4, hlt, hl, f63_1, f63_4, f63_5, f63_22, f63_23, f63_24] at f70_22)
          have f70_23 := congrFun e70 23
          (simp only [go_sem, d1, d2, d3, r49_24, q49_1, q49_22, q49_23, d4, hlt, hl, f63_1, f63_4, f63_5, f63_22, f63_23, f63_24] at f70_23)
          have f70_24 := congrFun e70 24
          (simp only [go_sem, d1, d2, d3, r49_24, q49_1, q49_22, q49_23, d4, hlt, hl, f63_1, f63_4, f63_5, f63_22, f63_23, f63_24] at f70_24)
          clear e70
          refine wpE_region ?_
          refine wpOs_step rfl fun K71 hK71 => ?_
          (try simp only [go_sem, d1, d2, d3, r49_24, q49_1, q49_22, q49_23, d4, hlt, hl, f70_1, f70_4, f70_6, f70_22, f70_23, f70_24])
          refine hK71 _ _ _ ?_; clear hK71 K71
          refine wpOs_step rfl fun K72 hK72 => ?_
          (try simp only [go_sem, d1, d2, d3, r49_24, q49_1, q49_22, q49_23, d4, hlt, hl, f70_1, f70_4, f70_6, f70_22, f70_23, f70_24])
          refine hK72 _ _ _ ?_; clear hK72 K72
          refine wpOs_end ?_
          refine hK69 _ _ _ ?_
          (try clear hK69 K69)
          refine wpE_cond' ?_
          (try simp only [go_sem, d1, d2, d3, r49_24, q49_1, q49_22, q49_23, d4, hlt, hl, f70_1, f70_4, f70_6, f70_22, f70_23, f70_24])
          refine branch_by (fun d5 => ?_) (fun d5 => ?_)
          · skip
            refine wpE_seq fun K73 hK73 => ?_
            -- region 10
            refine wpE_gen fun ρ74 e74 => ?_
            have f74_4 := congrFun e74 4
            (simp only [go_sem, d1, d2, d3, r49_24, q49_1, q49_22, q49_23, d4, hlt, hl, f70_1, f70_4, f70_6, f70_22, f70_23, f70_24, d5] at f74_4)
            have f74_6 := congrFun e74 6
            (simp only [go_sem, d1, d2, d3, r49_24, q49_1, q49_22, q49_23, d4, hlt, hl, f70_1, f70_4, f70_6, f70_22, f70_23, f70_24, d5] at f74_6)
            clear e74
            refine wpE_region ?_
            refine wpOs_step rfl fun K75 hK75 => ?_
            (try simp only [go_sem, d1, d2, d3, r49_24, q49_1, q49_22, q49_23, d4, hlt, hl, d5, f74_4, f74_6])
            refine hK75 _ _ _ ?_; clear hK75 K75
            refine wpOs_step rfl fun K76 hK76 => ?_
            (try simp only [go_sem, d1, d2, d3, r49_24, q49_1, q49_22, q49_23, d4, hlt, hl, d5, f74_4, f74_6])
            refine hK76 _ _ _ ?_; clear hK76 K76
            refine wpOs_step rfl fun K77 hK77 => ?_
            (try simp only [go_sem, d1, d2, d3, r49_24, q49_1, q49_22, q49_23, d4, hlt, hl, d5, f74_4, f74_6])
            refine hK77 _ _ _ ?_; clear hK77 K77
            refine wpOs_step rfl fun K78 hK78 => ?_
            (try simp only [go_sem, d1, d2, d3, r49_24, q49_1, q49_22, q49_23, d4, hlt, hl, d5, f74_4, f74_6])
            refine hK78 _ _ _ ?_; clear hK78 K78
            refine wpOs_end ?_
            refine hK73 _ _ _ ?_
            (try clear hK73 K73)
            refine wpE_ret ?_
            (try simp only [go_sem, d1, d2, d3, r49_24, q49_1, q49_22, q49_23, d4, hlt, hl, d5, f74_4, f74_6])
            refine fin_ret2 rfl ?_
            (try simp only [go_sem, d1, d2, d3, r49_24, q49_1, q49_22, q49_23, d4, hlt, hl, d5, f74_4, f74_6])
            -- leaf 3
            refine told_flat ?_ (by simp [FV, FVs])
            rw [show checkF n L = ((i : Int), clauseF n l) by unfold checkF; rw [if_neg (by omega), if_neg (by omega), hc, firstF_at hl, if_pos (by simpa using d5)]]
          · skip
            refine wpE_skip ?_
            (try simp only [go_sem])
            refine hK54 _ _ _ ?_
            (try clear hK54 K54)
            -- region 11
            refine wpE_gen fun ρ79 e79 => ?_
            have f79_1 := congrFun e79 1
            (simp only [go_sem, d1, d2, d3, r49_24, q49_1, q49_22, q49_23, d4, hlt, hl, f70_1, f70_4, f70_6, f70_22, f70_23, f70_24, d5] at f79_1)
            have f79_22 := congrFun e79 22
            (simp only [go_sem, d1, d2, d3, r49_24, q49_1, q49_22, q49_23, d4, hlt, hl, f70_1, f70_4, f70_6, f70_22, f70_23, f70_24, d5] at f79_22)
            have f79_23 := congrFun e79 23
            (simp only [go_sem, d1, d2, d3, r49_24, q49_1, q49_22, q49_23, d4, hlt, hl, f70_1, f70_4, f70_6, f70_22, f70_23, f70_24, d5] at f79_23)
            have f79_24 := congrFun e79 24
            (simp only [go_sem, d1, d2, d3, r49_24, q49_1, q49_22, q49_23, d4, hlt, hl, f70_1, f70_4, f70_6, f70_22, f70_23, f70_24, d5] at f79_24)
            clear e79
            refine wpE_region ?_
            refine wpOs_step rfl fun K80 hK80 => ?_
            (try simp only [go_sem, d1, d2, d3, r49_24, q49_1, q49_22, q49_23, d4, hlt, hl, d5, f79_1, f79_22, f79_23, f79_24])
            refine hK80 _ _ _ ?_; clear hK80 K80
            refine wpOs_step rfl fun K81 hK81 => ?_
            (try simp only [go_sem, d1, d2, d3, r49_24, q49_1, q49_22, q49_23, d4, hlt, hl, d5, f79_1, f79_22, f79_23, f79_24])
            refine hK81 _ _ _ ?_; clear hK81 K81
            refine wpOs_end ?_
            refine hK49 _ _ _ _ (by omega) ⟨i + 1, rfl, rfl, rfl, (by first | rfl | (simp only [go_sem, d1, d2, d3, r49_24, q49_1, q49_22, q49_23, d4, hlt, hl, d5, f79_1, f79_22, f79_23, f79_24, f48_1, f48_22, f48_23]; done) | (simp only [go_sem, d1, d2, d3, r49_24, q49_1, q49_22, q49_23, d4, hlt, hl, d5, f79_1, f79_22, f79_23, f79_24, f48_1, f48_22, f48_23]; rfl) | (simp only [go_sem, d1, d2, d3, r49_24, q49_1, q49_22, q49_23, d4, hlt, hl, d5, f79_1, f79_22, f79_23, f79_24, f48_1, f48_22, f48_23]; rw [wrap64 (by omega) (by omega)]; first | done | rfl | (congr 1; omega))), (by first | rfl | (simp only [go_sem, d1, d2, d3, r49_24, q49_1, q49_22, q49_23, d4, hlt, hl, d5, f79_1, f79_22, f79_23, f79_24, f48_1, f48_22, f48_23]; done) | (simp only [go_sem, d1, d2, d3, r49_24, q49_1, q49_22, q49_23, d4, hlt, hl, d5, f79_1, f79_22, f79_23, f79_24, f48_1, f48_22, f48_23]; rfl) | (simp only [go_sem, d1, d2, d3, r49_24, q49_1, q49_22, q49_23, d4, hlt, hl, d5, f79_1, f79_22, f79_23, f79_24, f48_1, f48_22, f48_23]; rw [wrap64 (by omega) (by omega)]; first | done | rfl | (congr 1; omega))), (by first | rfl | (simp only [go_sem, d1, d2, d3, r49_24, q49_1, q49_22, q49_23, d4, hlt, hl, d5, f79_1, f79_22, f79_23, f79_24, f48_1, f48_22, f48_23]; done) | (simp only [go_sem, d1, d2, d3, r49_24, q49_1, q49_22, q49_23, d4, hlt, hl, d5, f79_1, f79_22, f79_23, f79_24, f48_1, f48_22, f48_23]; rfl) | (simp only [go_sem, d1, d2, d3, r49_24, q49_1, q49_22, q49_23, d4, hlt, hl, d5, f79_1, f79_22, f79_23, f79_24, f48_1, f48_22, f48_23]; rw [wrap64 (by omega) (by omega)]; first | done | rfl | (congr 1; omega))), (by first | rfl | (simp only [go_sem, d1, d2, d3, r49_24, q49_1, q49_22, q49_23, d4, hlt, hl, d5, f79_1, f79_22, f79_23, f79_24, f48_1, f48_22, f48_23]; done) | (simp only [go_sem, d1, d2, d3, r49_24, q49_1, q49_22, q49_23, d4, hlt, hl, d5, f79_1, f79_22, f79_23, f79_24, f48_1, f48_22, f48_23]; rfl) | (simp only [go_sem, d1, d2, d3, r49_24, q49_1, q49_22, q49_23, d4, hlt, hl, d5, f79_1, f79_22, f79_23, f79_24, f48_1, f48_22, f48_23]; rw [wrap64 (by omega) (by omega)]; first | done | rfl | (congr 1; omega))), (by omega), (by rw [hc, firstF_at hl, if_neg (by simpa using d5)])⟩
        · skip
          have hge : i = L.length := by simp at d4; omega
          refine wpE_exit ?_
          (try simp only [go_sem])
          (try simp only [go_sem])
          refine hK41 _ _ _ ?_
          (try clear hK41 K41)
          refine wpE_seq fun K82 hK82 => ?_
          -- region 12
          refine wpE_gen fun ρ83 e83 => ?_
          clear e83
          refine wpE_region ?_
          refine wpOs_step rfl fun K84 hK84 => ?_
          (try simp only [go_sem, d1, d2, d3, r49_24, q49_1, q49_22, q49_23, d4])
          refine hK84 _ _ _ ?_; clear hK84 K84
          refine wpOs_step rfl fun K85 hK85 => ?_
          (try simp only [go_sem, d1, d2, d3, r49_24, q49_1, q49_22, q49_23, d4])
          refine hK85 _ _ _ ?_; clear hK85 K85
          refine wpOs_end ?_
          refine hK82 _ _ _ ?_
          (try clear hK82 K82)
          refine wpE_ret ?_
          (try simp only [go_sem, d1, d2, d3, r49_24, q49_1, q49_22, q49_23, d4])
          refine fin_ret2 rfl ?_
          (try simp only [go_sem, d1, d2, d3, r49_24, q49_1, q49_22, q49_23, d4])
          -- leaf 4
          refine told_flat ?_ (by simp [FV, FVs])
          rw [show checkF n L = (0, 0) by unfold checkF; rw [if_neg (by omega), if_neg (by omega), hc, hge, List.drop_length]; rfl]
set_option maxHeartbeats 4000000 in
theorem refCheck_fun (n : Int) (L : List (List Int)) (hI : ∀ l ∈ L, ∀ x ∈ l, inI64 x) : Fun Try.prog 28 [cl n L] (.tuple [.int .i64 (checkF n L).1, .int .i64 (checkF n L).2]) [] := by
  refine fun_walk (kk := 1000000) prog_ok (show Try.prog.funcs[28]? = some Try.f28 by kernel_rfl) (show Try.f28.body = some _ from rfl) (by kernel_rfl) (by show 1 ≤ _; decide) (by simp) ?_
  refine wpE_seq fun K1 hK1 => ?_
  -- region 0
  refine wpE_gen fun ρ2 e2 => ?_
  have f2_0 := congrFun e2 0
  (simp only [go_sem] at f2_0)
  clear e2
  refine wpE_region ?_
  refine wpOs_step rfl fun K3 hK3 => ?_
  (try simp only [go_sem, f2_0])
  refine hK3 _ _ _ ?_; clear hK3 K3
  refine wpOs_step rfl fun K4 hK4 => ?_
  (try simp only [go_sem, f2_0])
  refine hK4 _ _ _ ?_; clear hK4 K4
  refine wpOs_step rfl fun K5 hK5 => ?_
  (try simp only [go_sem, f2_0])
  refine hK5 _ _ _ ?_; clear hK5 K5
  refine wpOs_end ?_
  refine hK1 _ _ _ ?_
  (try clear hK1 K1)
  refine wpE_seq fun K6 hK6 => ?_
  refine wpE_seq fun K7 hK7 => ?_
  -- region 1
  refine wpE_gen fun ρ8 e8 => ?_
  have f8_1 := congrFun e8 1
  (simp only [go_sem, f2_0] at f8_1)
  clear e8
  refine wpE_region ?_
  refine wpOs_step rfl fun K9 hK9 => ?_
  (try simp only [go_sem, f8_1])
  refine hK9 _ _ _ ?_; clear hK9 K9
  refine wpOs_step rfl fun K10 hK10 => ?_
  (try simp only [go_sem, f8_1])
  refine hK10 _ _ _ ?_; clear hK10 K10
  refine wpOs_step rfl fun K11 hK11 => ?_
  (try simp only [go_sem, f8_1])
  refine call_fun (between_fun _ _ _) rfl rfl (fun _ => rfl) ?_
  (try simp only [go_sem, f8_1])
  refine hK11 _ _ _ ?_; clear hK11 K11
  refine wpOs_step rfl fun K12 hK12 => ?_
  (try simp only [go_sem, f8_1])
  refine hK12 _ _ _ ?_; clear hK12 K12
  refine wpOs_end ?_
  refine hK7 _ _ _ ?_
  (try clear hK7 K7)
  refine wpE_cond' ?_
  (try simp only [go_sem, f8_1])
  refine branch_by (fun d1 => ?_) (fun d1 => ?_)
  · skip
    refine wpE_seq fun K13 hK13 => ?_
    -- region 2
    refine wpE_gen fun ρ14 e14 => ?_
    clear e14
    refine wpE_region ?_
    refine wpOs_step rfl fun K15 hK15 => ?_
    (try simp only [go_sem, d1])
    refine hK15 _ _ _ ?_; clear hK15 K15
    refine wpOs_step rfl fun K16 hK16 => ?_
    (try simp only [go_sem, d1])
    refine hK16 _ _ _ ?_; clear hK16 K16
    refine wpOs_end ?_
    refine hK13 _ _ _ ?_
    (try clear hK13 K13)
    refine wpE_ret ?_
    (try simp only [go_sem, d1])
    refine fin_ret2 rfl ?_
    (try simp only [go_sem, d1])
    -- leaf 0
    refine told_flat ?_ (by simp [FV, FVs])
    rw [show checkF n L = (0, 3) by unfold checkF; rw [if_pos (by have a := d1; simp at a; omega)]]
  · skip
    have hv : 0 ≤ n ∧ n ≤ 400 := by simpa using d1
    refine wpE_skip ?_
    (try simp only [go_sem])
    refine hK6 _ _ _ ?_
    (try clear hK6 K6)
    refine wpE_seq fun K17 hK17 => ?_
    refine wpE_seq fun K18 hK18 => ?_
    -- region 3
    refine wpE_gen fun ρ19 e19 => ?_
    have f19_1 := congrFun e19 1
    (simp only [go_sem, f8_1, d1] at f19_1)
    clear e19
    refine wpE_region ?_
    refine wpOs_step rfl fun K20 hK20 => ?_
    (try simp only [go_sem, d1, f19_1])
    refine hK20 _ _ _ ?_; clear hK20 K20
    refine wpOs_step rfl fun K21 hK21 => ?_
    (try simp only [go_sem, d1, f19_1])
    refine hK21 _ _ _ ?_; clear hK21 K21
    refine wpOs_step rfl fun K22 hK22 => ?_
    (try simp only [go_sem, d1, f19_1])
    refine hK22 _ _ _ ?_; clear hK22 K22
    refine wpOs_step rfl fun K23 hK23 => ?_
    (try simp only [go_sem, d1, f19_1])
    refine hK23 _ _ _ ?_; clear hK23 K23
    refine wpOs_end ?_
    refine hK18 _ _ _ ?_
    (try clear hK18 K18)
    refine wpE_cond' ?_
    (try simp only [go_sem, d1, f19_1])
    refine branch_by (fun d2 => ?_) (fun d2 => ?_)
    · skip
      refine wpE_seq fun K24 hK24 => ?_
      -- region 4
      refine wpE_gen fun ρ25 e25 => ?_
      clear e25
      refine wpE_region ?_
      refine wpOs_step rfl fun K26 hK26 => ?_
      (try simp only [go_sem, d1, d2])
      refine hK26 _ _ _ ?_; clear hK26 K26
      refine wpOs_step rfl fun K27 hK27 => ?_
      (try simp only [go_sem, d1, d2])
      refine hK27 _ _ _ ?_; clear hK27 K27
      refine wpOs_end ?_
      refine hK24 _ _ _ ?_
      (try clear hK24 K24)
      refine wpE_ret ?_
      (try simp only [go_sem, d1, d2])
      refine fin_ret2 rfl ?_
      (try simp only [go_sem, d1, d2])
      -- leaf 1
      refine told_flat ?_ (by simp [FV, FVs])
      rw [show checkF n L = (0, 2) by unfold checkF; rw [if_neg (by omega), if_pos (by have := of_decide_eq_true d2; omega)]]
    · skip
      have hlen : L.length ≤ 6000 := by have := of_decide_eq_false d2; omega
      refine wpE_skip ?_
      (try simp only [go_sem])
      refine hK17 _ _ _ ?_
      (try clear hK17 K17)
      refine wpE_seq fun K28 hK28 => ?_
      refine wpE_seq fun K29 hK29 => ?_
      -- region 5
      refine wpE_gen fun ρ30 e30 => ?_
      have f30_1 := congrFun e30 1
      (simp only [go_sem, d1, f19_1, d2] at f30_1)
      clear e30
      refine wpE_region ?_
      refine wpOs_step rfl fun K31 hK31 => ?_
      (try simp only [go_sem, d1, d2, f30_1])
      refine hK31 _ _ _ ?_; clear hK31 K31
      refine wpOs_end ?_
      refine hK29 _ _ _ ?_
      (try clear hK29 K29)
      refine wpE_block ?_
      refine wpE_gen fun ρ32 e32 => ?_
      have f32_1 := congrFun e32 1
      (simp only [go_sem, d1, d2, f30_1] at f32_1)
      have f32_4 := congrFun e32 4
      (simp only [go_sem, d1, d2, f30_1] at f32_4)
      clear e32
      refine wpE_loop (fun mm ρ df g => ∃ i : Nat, mm = L.length - i ∧ df = [] ∧ g = Go.Ai.hL [.cells [.int .i64 n, lls L] false] ∧ ρ 4 = .int .i64 (i : Nat) ∧ ρ 1 = ρ32 1 ∧ i ≤ L.length ∧ firstF (clauseF n) 0 L = firstF (clauseF n) i (L.drop i)) (L.length) (by omega) ⟨0, rfl, rfl, rfl, (by first | rfl | (simp only [go_sem, d1, d2, f32_1, f32_4]; done) | (simp only [go_sem, d1, d2, f32_1, f32_4]; rfl)), rfl, (by omega), (by rfl)⟩ ?_
      rintro m33 K33 hK33 ρ df g ⟨i, hm33, rfl, rfl, r33_4, q33_1, hi, hc⟩
      replace q33_1 := q33_1.trans f32_1
      refine wpE_seq fun K34 hK34 => ?_
      refine wpE_seq fun K35 hK35 => ?_
      -- region 6
      refine wpE_gen fun ρ36 e36 => ?_
      have f36_1 := congrFun e36 1
      (simp only [go_sem, d1, d2, r33_4, q33_1] at f36_1)
      have f36_4 := congrFun e36 4
      (simp only [go_sem, d1, d2, r33_4, q33_1] at f36_4)
      clear e36
      refine wpE_region ?_
      refine wpOs_step rfl fun K37 hK37 => ?_
      (try simp only [go_sem, d1, d2, r33_4, q33_1, f36_1, f36_4])
      refine hK37 _ _ _ ?_; clear hK37 K37
      refine wpOs_step rfl fun K38 hK38 => ?_
      (try simp only [go_sem, d1, d2, r33_4, q33_1, f36_1, f36_4])
      refine hK38 _ _ _ ?_; clear hK38 K38
      refine wpOs_step rfl fun K39 hK39 => ?_
      (try simp only [go_sem, d1, d2, r33_4, q33_1, f36_1, f36_4])
      refine hK39 _ _ _ ?_; clear hK39 K39
      refine wpOs_step rfl fun K40 hK40 => ?_
      (try simp only [go_sem, d1, d2, r33_4, q33_1, f36_1, f36_4])
      refine hK40 _ _ _ ?_; clear hK40 K40
      refine wpOs_step rfl fun K41 hK41 => ?_
      (try simp only [go_sem, d1, d2, r33_4, q33_1, f36_1, f36_4])
      refine hK41 _ _ _ ?_; clear hK41 K41
      refine wpOs_end ?_
      refine hK35 _ _ _ ?_
      (try clear hK35 K35)
      refine wpE_cond' ?_
      (try simp only [go_sem, d1, d2, r33_4, q33_1, f36_1, f36_4])
      refine branch_by (fun d3 => ?_) (fun d3 => ?_)
      · skip
        have hlt : i < L.length := by simpa using d3
        obtain ⟨l, hl⟩ := has_at hlt
        have hmem : l ∈ L := List.mem_iff_getElem?.2 ⟨i, hl⟩
        refine wpE_skip ?_
        (try simp only [go_sem])
        refine hK34 _ _ _ ?_
        (try clear hK34 K34)
        refine wpE_seq fun K42 hK42 => ?_
        refine wpE_block ?_
        refine wpE_seq fun K43 hK43 => ?_
        -- region 8
        refine wpE_gen fun ρ44 e44 => ?_
        have f44_1 := congrFun e44 1
        (simp only [go_sem, d1, d2, r33_4, q33_1, f36_1, f36_4, d3, hlt, hl] at f44_1)
        have f44_4 := congrFun e44 4
        (simp only [go_sem, d1, d2, r33_4, q33_1, f36_1, f36_4, d3, hlt, hl] at f44_4)
        clear e44
        refine wpE_draw [] (by decide +kernel) ?_
        refine wpQs_step rfl fun K45 hK45 => ?_
        (try simp only [go_sem, d1, d2, r33_4, q33_1, d3, hlt, hl, f44_1, f44_4])
        refine hK45 _ _ _ ?_; clear hK45 K45
        refine wpQs_step rfl fun K46 hK46 => ?_
        (try simp only [go_sem, d1, d2, r33_4, q33_1, d3, hlt, hl, f44_1, f44_4])
        refine hK46 _ _ _ ?_; clear hK46 K46
        refine wpQs_step rfl fun K47 hK47 => ?_
        (try simp only [go_sem, d1, d2, r33_4, q33_1, d3, hlt, hl, f44_1, f44_4])
        refine hK47 _ _ _ ?_; clear hK47 K47
        refine wpQs_step rfl fun K48 hK48 => ?_
        (try simp only [go_sem, d1, d2, r33_4, q33_1, d3, hlt, hl, f44_1, f44_4])
        refine hK48 _ _ _ ?_; clear hK48 K48
        refine wpQs_step rfl fun K49 hK49 => ?_
        (try simp only [go_sem, d1, d2, r33_4, q33_1, d3, hlt, hl, f44_1, f44_4])
        refine hK49 _ _ _ ?_; clear hK49 K49
        refine wpQs_step rfl fun K50 hK50 => ?_
        (try simp only [go_sem, d1, d2, r33_4, q33_1, d3, hlt, hl, f44_1, f44_4])
        refine hK50 _ _ _ ?_; clear hK50 K50
        refine wpQs_step rfl fun K51 hK51 => ?_
        (try simp only [go_sem, d1, d2, r33_4, q33_1, d3, hlt, hl, f44_1, f44_4])
        refine hK51 _ _ _ ?_; clear hK51 K51
        refine wpQs_step rfl fun K52 hK52 => ?_
        (try simp only [go_sem, d1, d2, r33_4, q33_1, d3, hlt, hl, f44_1, f44_4])
        refine call_fun (refClauseErr_fun n hv l (hI l hmem)) rfl rfl (fun _ => rfl) ?_
        (try simp only [go_sem, d1, d2, r33_4, q33_1, d3, hlt, hl, f44_1, f44_4])
        refine hK52 _ _ _ ?_; clear hK52 K52
        refine wpQs_step rfl fun K53 hK53 => ?_
        (try simp only [go_sem, d1, d2, r33_4, q33_1, d3, hlt, hl, f44_1, f44_4])
        refine hK53 _ _ _ ?_; clear hK53 K53
        refine wpQs_end ?_
        refine hK43 _ _ _ ?_
        (try clear hK43 K43)
        refine wpE_seq fun K54 hK54 => ?_
        -- region 9
        refine wpE_gen fun ρ55 e55 => ?_
        have f55_1 := congrFun e55 1
        (simp only [go_sem, d1, d2, r33_4, q33_1, d3, hlt, hl, f44_1, f44_4] at f55_1)
        have f55_4 := congrFun e55 4
        (simp only [go_sem, d1, d2, r33_4, q33_1, d3, hlt, hl, f44_1, f44_4] at f55_4)
        have f55_5 := congrFun e55 5
        (simp only [go_sem, d1, d2, r33_4, q33_1, d3, hlt, hl, f44_1, f44_4] at f55_5)
        clear e55
        refine wpE_region ?_
        refine wpOs_step rfl fun K56 hK56 => ?_
        (try simp only [go_sem, d1, d2, r33_4, q33_1, d3, hlt, hl, f55_1, f55_4, f55_5])
        refine hK56 _ _ _ ?_; clear hK56 K56
        refine wpOs_step rfl fun K57 hK57 => ?_
        (try simp only [go_sem, d1, d2, r33_4, q33_1, d3, hlt, hl, f55_1, f55_4, f55_5])
        refine hK57 _ _ _ ?_; clear hK57 K57
        refine wpOs_end ?_
        refine hK54 _ _ _ ?_
        (try clear hK54 K54)
        refine wpE_cond' ?_
        (try simp only [go_sem, d1, d2, r33_4, q33_1, d3, hlt, hl, f55_1, f55_4, f55_5])
        refine branch_by (fun d4 => ?_) (fun d4 => ?_)
        · skip
          refine wpE_seq fun K58 hK58 => ?_
          -- region 10
          refine wpE_gen fun ρ59 e59 => ?_
          have f59_4 := congrFun e59 4
          (simp only [go_sem, d1, d2, r33_4, q33_1, d3, hlt, hl, f55_1, f55_4, f55_5, d4] at f59_4)
          have f59_5 := congrFun e59 5
          (simp only [go_sem, d1, d2, r33_4, q33_1, d3, hlt, hl, f55_1, f55_4, f55_5, d4] at f59_5)
          clear e59
          refine wpE_region ?_
          refine wpOs_step rfl fun K60 hK60 => ?_
          (try simp only [go_sem, d1, d2, r33_4, q33_1, d3, hlt, hl, d4, f59_4, f59_5])
          refine hK60 _ _ _ ?_; clear hK60 K60
          refine wpOs_step rfl fun K61 hK61 => ?_
          (try simp only [go_sem, d1, d2, r33_4, q33_1, d3, hlt, hl, d4, f59_4, f59_5])
          refine hK61 _ _ _ ?_; clear hK61 K61
          refine wpOs_step rfl fun K62 hK62 => ?_
          (try simp only [go_sem, d1, d2, r33_4, q33_1, d3, hlt, hl, d4, f59_4, f59_5])
          refine hK62 _ _ _ ?_; clear hK62 K62
          refine wpOs_step rfl fun K63 hK63 => ?_
          (try simp only [go_sem, d1, d2, r33_4, q33_1, d3, hlt, hl, d4, f59_4, f59_5])
          refine hK63 _ _ _ ?_; clear hK63 K63
          refine wpOs_end ?_
          refine hK58 _ _ _ ?_
          (try clear hK58 K58)
          refine wpE_ret ?_
          (try simp only [go_sem, d1, d2, r33_4, q33_1, d3, hlt, hl, d4, f59_4, f59_5])
          refine fin_ret2 rfl ?_
          (try simp only [go_sem, d1, d2, r33_4, q33_1, d3, hlt, hl, d4, f59_4, f59_5])
          -- leaf 2
          refine told_flat ?_ (by simp [FV, FVs])
          rw [show checkF n L = ((i : Int), clauseF n l) by unfold checkF; rw [if_neg (by omega), if_neg (by omega), hc, firstF_at hl, if_pos (by simpa using d4)]]
        · skip
          refine wpE_skip ?_
          (try simp only [go_sem])
          refine hK42 _ _ _ ?_
          (try clear hK42 K42)
          -- region 7
          refine wpE_gen fun ρ64 e64 => ?_
          have f64_1 := congrFun e64 1
          (simp only [go_sem, d1, d2, r33_4, q33_1, d3, hlt, hl, f55_1, f55_4, f55_5, d4] at f64_1)
          have f64_4 := congrFun e64 4
          (simp only [go_sem, d1, d2, r33_4, q33_1, d3, hlt, hl, f55_1, f55_4, f55_5, d4] at f64_4)
          clear e64
          refine wpE_region ?_
          refine wpOs_step rfl fun K65 hK65 => ?_
          (try simp only [go_sem, d1, d2, r33_4, q33_1, d3, hlt, hl, d4, f64_1, f64_4])
          refine hK65 _ _ _ ?_; clear hK65 K65
          refine wpOs_step rfl fun K66 hK66 => ?_
          (try simp only [go_sem, d1, d2, r33_4, q33_1, d3, hlt, hl, d4, f64_1, f64_4])
          refine hK66 _ _ _ ?_; clear hK66 K66
          refine wpOs_step rfl fun K67 hK67 => ?_
          (try simp only [go_sem, d1, d2, r33_4, q33_1, d3, hlt, hl, d4, f64_1, f64_4])
          refine hK67 _ _ _ ?_; clear hK67 K67
          refine wpOs_end ?_
          refine hK33 _ _ _ _ (by omega) ⟨i + 1, rfl, rfl, rfl, (by first | rfl | (simp only [go_sem, d1, d2, r33_4, q33_1, d3, hlt, hl, d4, f64_1, f64_4, f32_1]; done) | (simp only [go_sem, d1, d2, r33_4, q33_1, d3, hlt, hl, d4, f64_1, f64_4, f32_1]; rfl) | (simp only [go_sem, d1, d2, r33_4, q33_1, d3, hlt, hl, d4, f64_1, f64_4, f32_1]; rw [wrap64 (by omega) (by omega)]; first | done | rfl | (congr 1; omega))), (by first | rfl | (simp only [go_sem, d1, d2, r33_4, q33_1, d3, hlt, hl, d4, f64_1, f64_4, f32_1]; done) | (simp only [go_sem, d1, d2, r33_4, q33_1, d3, hlt, hl, d4, f64_1, f64_4, f32_1]; rfl) | (simp only [go_sem, d1, d2, r33_4, q33_1, d3, hlt, hl, d4, f64_1, f64_4, f32_1]; rw [wrap64 (by omega) (by omega)]; first | done | rfl | (congr 1; omega))), (by omega), (by rw [hc, firstF_at hl, if_neg (by simpa using d4)])⟩
      · skip
        have hge : i = L.length := by simp at d3; omega
        refine wpE_exit ?_
        (try simp only [go_sem])
        (try simp only [go_sem])
        refine hK28 _ _ _ ?_
        (try clear hK28 K28)
        refine wpE_seq fun K68 hK68 => ?_
        -- region 11
        refine wpE_gen fun ρ69 e69 => ?_
        clear e69
        refine wpE_region ?_
        refine wpOs_step rfl fun K70 hK70 => ?_
        (try simp only [go_sem, d1, d2, r33_4, q33_1, d3])
        refine hK70 _ _ _ ?_; clear hK70 K70
        refine wpOs_step rfl fun K71 hK71 => ?_
        (try simp only [go_sem, d1, d2, r33_4, q33_1, d3])
        refine hK71 _ _ _ ?_; clear hK71 K71
        refine wpOs_end ?_
        refine hK68 _ _ _ ?_
        (try clear hK68 K68)
        refine wpE_ret ?_
        (try simp only [go_sem, d1, d2, r33_4, q33_1, d3])
        refine fin_ret2 rfl ?_
        (try simp only [go_sem, d1, d2, r33_4, q33_1, d3])
        -- leaf 3
        refine told_flat ?_ (by simp [FV, FVs])
        rw [show checkF n L = (0, 0) by unfold checkF; rw [if_neg (by omega), if_neg (by omega), hc, hge, List.drop_length]; rfl]
set_option maxHeartbeats 4000000 in
theorem formulaErr_fun (n : Int) (L : List (List Int)) (hI : ∀ l ∈ L, ∀ x ∈ l, inI64 x) : Fun Try.prog 53 [cl n L] (.int .i64 (checkF n L).2) [] := by
  refine fun_walk (kk := 1000000) prog_ok (show Try.prog.funcs[53]? = some Try.f53 by kernel_rfl) (show Try.f53.body = some _ from rfl) (by kernel_rfl) (by show 1 ≤ _; decide) (by simp) ?_
  refine wpE_seq fun K1 hK1 => ?_
  -- region 0
  refine wpE_gen fun ρ2 e2 => ?_
  have f2_0 := congrFun e2 0
  (simp only [go_sem] at f2_0)
  clear e2
  refine wpE_region ?_
  refine wpOs_step rfl fun K3 hK3 => ?_
  (try simp only [go_sem, f2_0])
  refine hK3 _ _ _ ?_; clear hK3 K3
  refine wpOs_step rfl fun K4 hK4 => ?_
  (try simp only [go_sem, f2_0])
  refine hK4 _ _ _ ?_; clear hK4 K4
  refine wpOs_end ?_
  refine hK1 _ _ _ ?_
  (try clear hK1 K1)
  refine wpE_seq fun K5 hK5 => ?_
  -- region 1
  refine wpE_gen fun ρ6 e6 => ?_
  have f6_1 := congrFun e6 1
  (simp only [go_sem, f2_0] at f6_1)
  clear e6
  refine wpE_region ?_
  refine wpOs_step rfl fun K7 hK7 => ?_
  (try simp only [go_sem, f6_1])
  refine hK7 _ _ _ ?_; clear hK7 K7
  refine wpOs_step rfl fun K8 hK8 => ?_
  (try simp only [go_sem, f6_1])
  refine call_fun (check_fun n L hI) rfl rfl (fun _ => rfl) ?_
  (try simp only [go_sem, f6_1])
  refine hK8 _ _ _ ?_; clear hK8 K8
  refine wpOs_step rfl fun K9 hK9 => ?_
  (try simp only [go_sem, f6_1])
  refine hK9 _ _ _ ?_; clear hK9 K9
  refine wpOs_step rfl fun K10 hK10 => ?_
  (try simp only [go_sem, f6_1])
  refine hK10 _ _ _ ?_; clear hK10 K10
  refine wpOs_step rfl fun K11 hK11 => ?_
  (try simp only [go_sem, f6_1])
  refine hK11 _ _ _ ?_; clear hK11 K11
  refine wpOs_step rfl fun K12 hK12 => ?_
  (try simp only [go_sem, f6_1])
  refine hK12 _ _ _ ?_; clear hK12 K12
  refine wpOs_step rfl fun K13 hK13 => ?_
  (try simp only [go_sem, f6_1])
  refine hK13 _ _ _ ?_; clear hK13 K13
  refine wpOs_end ?_
  refine hK5 _ _ _ ?_
  (try clear hK5 K5)
  refine wpE_seq fun K14 hK14 => ?_
  -- region 2
  refine wpE_gen fun ρ15 e15 => ?_
  have f15_4 := congrFun e15 4
  (simp only [go_sem, f6_1] at f15_4)
  clear e15
  refine wpE_region ?_
  refine wpOs_step rfl fun K16 hK16 => ?_
  (try simp only [go_sem, f15_4])
  refine hK16 _ _ _ ?_; clear hK16 K16
  refine wpOs_step rfl fun K17 hK17 => ?_
  (try simp only [go_sem, f15_4])
  refine hK17 _ _ _ ?_; clear hK17 K17
  refine wpOs_end ?_
  refine hK14 _ _ _ ?_
  (try clear hK14 K14)
  refine wpE_ret ?_
  (try simp only [go_sem, f15_4])
  refine fin_ret1 rfl ?_
  (try simp only [go_sem, f15_4])
  -- leaf 0
  exact told_flat rfl (by simp [FV, FVs])
set_option maxHeartbeats 4000000 in
theorem isTrue_fun (m : List Bool) (n : Int) (hm : (m.length : Int) = n) (hn : 0 ≤ n ∧ n ≤ 400) (x : Int) (hx : litOk n x) : Fun Try.prog 41 [bls m, .int .i64 x] (.bool (holdsB m x)) [] := by
  obtain ⟨b, hw, hlt, hb, hh, hI⟩ := lit_at hm hn hx
  refine fun_walk (kk := 1000000) prog_ok (show Try.prog.funcs[41]? = some Try.f41 by kernel_rfl) (show Try.f41.body = some _ from rfl) (by kernel_rfl) (by show 2 ≤ _; decide) (by simp) ?_
  refine wpE_seq fun K1 hK1 => ?_
  -- region 0
  refine wpE_gen fun ρ2 e2 => ?_
  have f2_0 := congrFun e2 0
  (simp only [go_sem, hw, hlt, hb] at f2_0)
  have f2_1 := congrFun e2 1
  (simp only [go_sem, hw, hlt, hb] at f2_1)
  clear e2
  refine wpE_region ?_
  refine wpOs_step rfl fun K3 hK3 => ?_
  (try simp only [go_sem, hw, hlt, hb, f2_0, f2_1])
  refine hK3 _ _ _ ?_; clear hK3 K3
  refine wpOs_end ?_
  refine hK1 _ _ _ ?_
  (try clear hK1 K1)
  refine wpE_seq fun K4 hK4 => ?_
  -- region 1
  refine wpE_gen fun ρ5 e5 => ?_
  have f5_0 := congrFun e5 0
  (simp only [go_sem, hw, hlt, hb, f2_0, f2_1] at f5_0)
  have f5_1 := congrFun e5 1
  (simp only [go_sem, hw, hlt, hb, f2_0, f2_1] at f5_1)
  clear e5
  refine wpE_region ?_
  refine wpOs_step rfl fun K6 hK6 => ?_
  (try simp only [go_sem, hw, hlt, hb, f5_0, f5_1])
  refine hK6 _ _ _ ?_; clear hK6 K6
  refine wpOs_step rfl fun K7 hK7 => ?_
  (try simp only [go_sem, hw, hlt, hb, f5_0, f5_1])
  refine hK7 _ _ _ ?_; clear hK7 K7
  refine wpOs_step rfl fun K8 hK8 => ?_
  (try simp only [go_sem, hw, hlt, hb, f5_0, f5_1])
  refine call_fun (abs_fun _) rfl rfl (fun _ => rfl) ?_
  (try simp only [go_sem, hw, hlt, hb, f5_0, f5_1])
  refine hK8 _ _ _ ?_; clear hK8 K8
  refine wpOs_step rfl fun K9 hK9 => ?_
  (try simp only [go_sem, hw, hlt, hb, f5_0, f5_1])
  refine hK9 _ _ _ ?_; clear hK9 K9
  refine wpOs_step rfl fun K10 hK10 => ?_
  (try simp only [go_sem, hw, hlt, hb, f5_0, f5_1])
  refine hK10 _ _ _ ?_; clear hK10 K10
  refine wpOs_step rfl fun K11 hK11 => ?_
  (try simp only [go_sem, hw, hlt, hb, f5_0, f5_1])
  refine hK11 _ _ _ ?_; clear hK11 K11
  refine wpOs_step rfl fun K12 hK12 => ?_
  (try simp only [go_sem, hw, hlt, hb, f5_0, f5_1])
  refine hK12 _ _ _ ?_; clear hK12 K12
  refine wpOs_step rfl fun K13 hK13 => ?_
  (try simp only [go_sem, hw, hlt, hb, f5_0, f5_1])
  refine hK13 _ _ _ ?_; clear hK13 K13
  refine wpOs_step rfl fun K14 hK14 => ?_
  (try simp only [go_sem, hw, hlt, hb, f5_0, f5_1])
  refine hK14 _ _ _ ?_; clear hK14 K14
  refine wpOs_step rfl fun K15 hK15 => ?_
  (try simp only [go_sem, hw, hlt, hb, f5_0, f5_1])
  refine hK15 _ _ _ ?_; clear hK15 K15
  refine wpOs_end ?_
  refine hK4 _ _ _ ?_
  (try clear hK4 K4)
  refine wpE_ret ?_
  (try simp only [go_sem, hw, hlt, hb, f5_0, f5_1])
  refine fin_ret1 rfl ?_
  (try simp only [go_sem, hw, hlt, hb, f5_0, f5_1])
  -- leaf 0
  exact told_flat (congrArg _ hh.symm) (by simp [FV, FVs])
set_option maxHeartbeats 4000000 in
theorem holds_fun (m : List Bool) (n : Int) (hm : (m.length : Int) = n) (hn : 0 ≤ n ∧ n ≤ 400) (x : Int) (hx : litOk n x) : Fun Try.prog 92 [bls m, .int .i64 x] (.bool (holdsB m x)) [] := by
  obtain ⟨b, hw, hlt, hb, hh, hI⟩ := lit_at hm hn hx
  refine fun_walk (kk := 1000000) prog_ok (show Try.prog.funcs[92]? = some Try.f92 by kernel_rfl) (show Try.f92.body = some _ from rfl) (by kernel_rfl) (by show 2 ≤ _; decide) (by simp) ?_
  refine wpE_seq fun K1 hK1 => ?_
  -- region 0
  refine wpE_gen fun ρ2 e2 => ?_
  have f2_0 := congrFun e2 0
  (simp only [go_sem, hw, hlt, hb] at f2_0)
  have f2_1 := congrFun e2 1
  (simp only [go_sem, hw, hlt, hb] at f2_1)
  clear e2
  refine wpE_region ?_
  refine wpOs_step rfl fun K3 hK3 => ?_
  (try simp only [go_sem, hw, hlt, hb, f2_0, f2_1])
  refine hK3 _ _ _ ?_; clear hK3 K3
  refine wpOs_end ?_
  refine hK1 _ _ _ ?_
  (try clear hK1 K1)
  refine wpE_seq fun K4 hK4 => ?_
  -- region 1
  refine wpE_gen fun ρ5 e5 => ?_
  have f5_0 := congrFun e5 0
  (simp only [go_sem, hw, hlt, hb, f2_0, f2_1] at f5_0)
  have f5_1 := congrFun e5 1
  (simp only [go_sem, hw, hlt, hb, f2_0, f2_1] at f5_1)
  clear e5
  refine wpE_region ?_
  refine wpOs_step rfl fun K6 hK6 => ?_
  (try simp only [go_sem, hw, hlt, hb, f5_0, f5_1])
  refine hK6 _ _ _ ?_; clear hK6 K6
  refine wpOs_step rfl fun K7 hK7 => ?_
  (try simp only [go_sem, hw, hlt, hb, f5_0, f5_1])
  refine hK7 _ _ _ ?_; clear hK7 K7
  refine wpOs_step rfl fun K8 hK8 => ?_
  (try simp only [go_sem, hw, hlt, hb, f5_0, f5_1])
  refine call_fun (variable_fun _ hI) rfl rfl (fun _ => rfl) ?_
  (try simp only [go_sem, hw, hlt, hb, f5_0, f5_1])
  refine hK8 _ _ _ ?_; clear hK8 K8
  refine wpOs_step rfl fun K9 hK9 => ?_
  (try simp only [go_sem, hw, hlt, hb, f5_0, f5_1])
  refine hK9 _ _ _ ?_; clear hK9 K9
  refine wpOs_step rfl fun K10 hK10 => ?_
  (try simp only [go_sem, hw, hlt, hb, f5_0, f5_1])
  refine hK10 _ _ _ ?_; clear hK10 K10
  refine wpOs_step rfl fun K11 hK11 => ?_
  (try simp only [go_sem, hw, hlt, hb, f5_0, f5_1])
  refine hK11 _ _ _ ?_; clear hK11 K11
  refine wpOs_step rfl fun K12 hK12 => ?_
  (try simp only [go_sem, hw, hlt, hb, f5_0, f5_1])
  refine hK12 _ _ _ ?_; clear hK12 K12
  refine wpOs_step rfl fun K13 hK13 => ?_
  (try simp only [go_sem, hw, hlt, hb, f5_0, f5_1])
  refine hK13 _ _ _ ?_; clear hK13 K13
  refine wpOs_step rfl fun K14 hK14 => ?_
  (try simp only [go_sem, hw, hlt, hb, f5_0, f5_1])
  refine hK14 _ _ _ ?_; clear hK14 K14
  refine wpOs_step rfl fun K15 hK15 => ?_
  (try simp only [go_sem, hw, hlt, hb, f5_0, f5_1])
  refine hK15 _ _ _ ?_; clear hK15 K15
  refine wpOs_end ?_
  refine hK4 _ _ _ ?_
  (try clear hK4 K4)
  refine wpE_ret ?_
  (try simp only [go_sem, hw, hlt, hb, f5_0, f5_1])
  refine fin_ret1 rfl ?_
  (try simp only [go_sem, hw, hlt, hb, f5_0, f5_1])
  -- leaf 0
  exact told_flat (congrArg _ hh.symm) (by simp [FV, FVs])
set_option maxHeartbeats 4000000 in
theorem broken11_fun (m : List Bool) (n : Int) (hm : (m.length : Int) = n) (hn : 0 ≤ n ∧ n ≤ 400) (x : Int) (hx : litOk n x) : Fun Try.prog 91 [.int .i64 x, .ipt [bls m] 0] (.bool (holdsB m x)) [] := by
  refine fun_walk (kk := 1000000) prog_ok (show Try.prog.funcs[91]? = some Try.f91 by kernel_rfl) (show Try.f91.body = some _ from rfl) (by kernel_rfl) (by show 2 ≤ _; decide) (by simp) ?_
  refine wpE_seq fun K1 hK1 => ?_
  -- region 0
  refine wpE_gen fun ρ2 e2 => ?_
  have f2_0 := congrFun e2 0
  (simp only [go_sem] at f2_0)
  have f2_1 := congrFun e2 1
  (simp only [go_sem] at f2_1)
  clear e2
  refine wpE_region ?_
  refine wpOs_step rfl fun K3 hK3 => ?_
  (try simp only [go_sem, f2_0, f2_1])
  refine hK3 _ _ _ ?_; clear hK3 K3
  refine wpOs_end ?_
  refine hK1 _ _ _ ?_
  (try clear hK1 K1)
  refine wpE_seq fun K4 hK4 => ?_
  -- region 1
  refine wpE_gen fun ρ5 e5 => ?_
  have f5_0 := congrFun e5 0
  (simp only [go_sem, f2_0, f2_1] at f5_0)
  have f5_1 := congrFun e5 1
  (simp only [go_sem, f2_0, f2_1] at f5_1)
  clear e5
  refine wpE_region ?_
  refine wpOs_step rfl fun K6 hK6 => ?_
  (try simp only [go_sem, f5_0, f5_1])
  refine hK6 _ _ _ ?_; clear hK6 K6
  refine wpOs_step rfl fun K7 hK7 => ?_
  (try simp only [go_sem, f5_0, f5_1])
  refine hK7 _ _ _ ?_; clear hK7 K7
  refine wpOs_step rfl fun K8 hK8 => ?_
  (try simp only [go_sem, f5_0, f5_1])
  refine call_fun (holds_fun m n hm hn x hx) rfl rfl (fun _ => rfl) ?_
  (try simp only [go_sem, f5_0, f5_1])
  refine hK8 _ _ _ ?_; clear hK8 K8
  refine wpOs_step rfl fun K9 hK9 => ?_
  (try simp only [go_sem, f5_0, f5_1])
  refine hK9 _ _ _ ?_; clear hK9 K9
  refine wpOs_end ?_
  refine hK4 _ _ _ ?_
  (try clear hK4 K4)
  refine wpE_ret ?_
  (try simp only [go_sem, f5_0, f5_1])
  refine fin_ret1 rfl ?_
  (try simp only [go_sem, f5_0, f5_1])
  -- leaf 0
  exact told_flat rfl (by simp [FV, FVs])
set_option maxHeartbeats 4000000 in
theorem index91_fun (m : List Bool) (n : Int) (hm : (m.length : Int) = n) (hn : 0 ≤ n ∧ n ≤ 400) (l : List Int) (hl0 : ∀ x ∈ l, litOk n x) (hlen : l.length ≤ 40) : Fun Try.prog 93 [lst l, .func 91 [] [.ipt [bls m] 0]] (.int .i64 (findF (holdsB m) 0 l)) [] := by
  refine fun_walk (kk := 1000000) prog_ok (show Try.prog.funcs[93]? = some Try.f93 by kernel_rfl) (show Try.f93.body = some _ from rfl) (by kernel_rfl) (by show 2 ≤ _; decide) (by simp) ?_
  refine wpE_seq fun K1 hK1 => ?_
  -- region 0
  refine wpE_gen fun ρ2 e2 => ?_
  have f2_0 := congrFun e2 0
  (simp only [go_sem] at f2_0)
  have f2_1 := congrFun e2 1
  (simp only [go_sem] at f2_1)
  clear e2
  refine wpE_region ?_
  refine wpOs_step rfl fun K3 hK3 => ?_
  (try simp only [go_sem, f2_0, f2_1])
  refine hK3 _ _ _ ?_; clear hK3 K3
  refine wpOs_end ?_
  refine hK1 _ _ _ ?_
  (try clear hK1 K1)
  refine wpE_seq fun K4 hK4 => ?_
  refine wpE_seq fun K5 hK5 => ?_
  -- region 1
  refine wpE_gen fun ρ6 e6 => ?_
  have f6_0 := congrFun e6 0
  (simp only [go_sem, f2_0, f2_1] at f6_0)
  have f6_1 := congrFun e6 1
  (simp only [go_sem, f2_0, f2_1] at f6_1)
  clear e6
  refine wpE_region ?_
  refine wpOs_step rfl fun K7 hK7 => ?_
  (try simp only [go_sem, f6_0, f6_1])
  refine hK7 _ _ _ ?_; clear hK7 K7
  refine wpOs_step rfl fun K8 hK8 => ?_
  (try simp only [go_sem, f6_0, f6_1])
  refine hK8 _ _ _ ?_; clear hK8 K8
  refine wpOs_step rfl fun K9 hK9 => ?_
  (try simp only [go_sem, f6_0, f6_1])
  refine hK9 _ _ _ ?_; clear hK9 K9
  refine wpOs_end ?_
  refine hK5 _ _ _ ?_
  (try clear hK5 K5)
  refine wpE_block ?_
  refine wpE_gen fun ρ10 e10 => ?_
  have f10_0 := congrFun e10 0
  (simp only [go_sem, f6_0, f6_1] at f10_0)
  have f10_1 := congrFun e10 1
  (simp only [go_sem, f6_0, f6_1] at f10_1)
  have f10_7 := congrFun e10 7
  (simp only [go_sem, f6_0, f6_1] at f10_7)
  have f10_8 := congrFun e10 8
  (simp only [go_sem, f6_0, f6_1] at f10_8)
  clear e10
  refine wpE_loop (fun mm ρ df g => ∃ i : Nat, mm = l.length - i ∧ df = [] ∧ g = hL [] ∧ ρ 8 = .int .i64 (i : Nat) ∧ ρ 0 = ρ10 0 ∧ ρ 1 = ρ10 1 ∧ ρ 7 = ρ10 7 ∧ i ≤ l.length ∧ findF (holdsB m) 0 l = findF (holdsB m) i (l.drop i)) (l.length) (by omega) ⟨0, rfl, rfl, rfl, (by first | rfl | (simp only [go_sem, f10_0, f10_1, f10_7, f10_8]; done) | (simp only [go_sem, f10_0, f10_1, f10_7, f10_8]; rfl)), rfl, rfl, rfl, (by omega), (by rfl)⟩ ?_
  rintro m11 K11 hK11 ρ df g ⟨i, hm11, rfl, rfl, r11_8, q11_0, q11_1, q11_7, hi, hc⟩
  replace q11_0 := q11_0.trans f10_0
  replace q11_1 := q11_1.trans f10_1
  replace q11_7 := q11_7.trans f10_7
  refine wpE_seq fun K12 hK12 => ?_
  -- region 2
  refine wpE_gen fun ρ13 e13 => ?_
  have f13_0 := congrFun e13 0
  (simp only [go_sem, r11_8, q11_0, q11_1, q11_7] at f13_0)
  have f13_1 := congrFun e13 1
  (simp only [go_sem, r11_8, q11_0, q11_1, q11_7] at f13_1)
  have f13_7 := congrFun e13 7
  (simp only [go_sem, r11_8, q11_0, q11_1, q11_7] at f13_7)
  have f13_8 := congrFun e13 8
  (simp only [go_sem, r11_8, q11_0, q11_1, q11_7] at f13_8)
  clear e13
  refine wpE_region ?_
  refine wpOs_step rfl fun K14 hK14 => ?_
  (try simp only [go_sem, r11_8, q11_0, q11_1, q11_7, f13_0, f13_1, f13_7, f13_8])
  refine hK14 _ _ _ ?_; clear hK14 K14
  refine wpOs_end ?_
  refine hK12 _ _ _ ?_
  (try clear hK12 K12)
  refine wpE_seq fun K15 hK15 => ?_
  refine wpE_cond' ?_
  (try simp only [go_sem, r11_8, q11_0, q11_1, q11_7, f13_0, f13_1, f13_7, f13_8])
  refine branch_by (fun d1 => ?_) (fun d1 => ?_)
  · skip
    have hlt : i < l.length := by simpa using d1
    obtain ⟨x, hl⟩ := has_at hlt
    have hx : litOk n x := hl0 x (List.mem_iff_getElem?.2 ⟨i, hl⟩)
    refine wpE_skip ?_
    (try simp only [go_sem])
    refine hK15 _ _ _ ?_
    (try clear hK15 K15)
    refine wpE_seq fun K16 hK16 => ?_
    refine wpE_block ?_
    refine wpE_seq fun K17 hK17 => ?_
    -- region 3
    refine wpE_gen fun ρ18 e18 => ?_
    have f18_0 := congrFun e18 0
    (simp only [go_sem, r11_8, q11_0, q11_1, q11_7, f13_0, f13_1, f13_7, f13_8, d1, hlt, hl] at f18_0)
    have f18_1 := congrFun e18 1
    (simp only [go_sem, r11_8, q11_0, q11_1, q11_7, f13_0, f13_1, f13_7, f13_8, d1, hlt, hl] at f18_1)
    have f18_7 := congrFun e18 7
    (simp only [go_sem, r11_8, q11_0, q11_1, q11_7, f13_0, f13_1, f13_7, f13_8, d1, hlt, hl] at f18_7)
    have f18_8 := congrFun e18 8
    (simp only [go_sem, r11_8, q11_0, q11_1, q11_7, f13_0, f13_1, f13_7, f13_8, d1, hlt, hl] at f18_8)
    clear e18
    refine wpE_region ?_
    refine wpOs_step rfl fun K19 hK19 => ?_
    (try simp only [go_sem, r11_8, q11_0, q11_1, q11_7, d1, hlt, hl, f18_0, f18_1, f18_7, f18_8])
    refine hK19 _ _ _ ?_; clear hK19 K19
    refine wpOs_step rfl fun K20 hK20 => ?_
    (try simp only [go_sem, r11_8, q11_0, q11_1, q11_7, d1, hlt, hl, f18_0, f18_1, f18_7, f18_8])
    refine hK20 _ _ _ ?_; clear hK20 K20
    refine wpOs_end ?_
    refine hK17 _ _ _ ?_
    (try clear hK17 K17)
    refine wpE_seq fun K21 hK21 => ?_
    -- region 4
    refine wpE_gen fun ρ22 e22 => ?_
    have f22_0 := congrFun e22 0
    (simp only [go_sem, r11_8, q11_0, q11_1, q11_7, d1, hlt, hl, f18_0, f18_1, f18_7, f18_8] at f22_0)
    have f22_1 := congrFun e22 1
    (simp only [go_sem, r11_8, q11_0, q11_1, q11_7, d1, hlt, hl, f18_0, f18_1, f18_7, f18_8] at f22_1)
    have f22_5 := congrFun e22 5
    (simp only [go_sem, r11_8, q11_0, q11_1, q11_7, d1, hlt, hl, f18_0, f18_1, f18_7, f18_8] at f22_5)
    have f22_7 := congrFun e22 7
    (simp only [go_sem, r11_8, q11_0, q11_1, q11_7, d1, hlt, hl, f18_0, f18_1, f18_7, f18_8] at f22_7)
    have f22_8 := congrFun e22 8
    (simp only [go_sem, r11_8, q11_0, q11_1, q11_7, d1, hlt, hl, f18_0, f18_1, f18_7, f18_8] at f22_8)
    clear e22
    refine wpE_region ?_
    refine wpOs_step rfl fun K23 hK23 => ?_
    (try simp only [go_sem, r11_8, q11_0, q11_1, q11_7, d1, hlt, hl, f22_0, f22_1, f22_5, f22_7, f22_8])
    refine hK23 _ _ _ ?_; clear hK23 K23
    refine wpOs_step rfl fun K24 hK24 => ?_
    (try simp only [go_sem, r11_8, q11_0, q11_1, q11_7, d1, hlt, hl, f22_0, f22_1, f22_5, f22_7, f22_8])
    refine hK24 _ _ _ ?_; clear hK24 K24
    refine wpOs_step rfl fun K25 hK25 => ?_
    (try simp only [go_sem, r11_8, q11_0, q11_1, q11_7, d1, hlt, hl, f22_0, f22_1, f22_5, f22_7, f22_8])
    refine hK25 _ _ _ ?_; clear hK25 K25
    refine wpOs_step rfl fun K26 hK26 => ?_
    (try simp only [go_sem, r11_8, q11_0, q11_1, q11_7, d1, hlt, hl, f22_0, f22_1, f22_5, f22_7, f22_8])
    refine hK26 _ _ _ ?_; clear hK26 K26
    refine wpOs_step rfl fun K27 hK27 => ?_
    (try simp only [go_sem, r11_8, q11_0, q11_1, q11_7, d1, hlt, hl, f22_0, f22_1, f22_5, f22_7, f22_8])
    refine hK27 _ _ _ ?_; clear hK27 K27
    refine wpOs_step rfl fun K28 hK28 => ?_
    (try simp only [go_sem, r11_8, q11_0, q11_1, q11_7, d1, hlt, hl, f22_0, f22_1, f22_5, f22_7, f22_8])
    refine call_fun (broken11_fun m n hm hn x hx) rfl rfl (fun _ => rfl) ?_
    (try simp only [go_sem, r11_8, q11_0, q11_1, q11_7, d1, hlt, hl, f22_0, f22_1, f22_5, f22_7, f22_8])
    refine hK28 _ _ _ ?_; clear hK28 K28
    refine wpOs_end ?_
    refine hK21 _ _ _ ?_
    (try clear hK21 K21)
    refine wpE_cond' ?_
    (try simp only [go_sem, r11_8, q11_0, q11_1, q11_7, d1, hlt, hl, f22_0, f22_1, f22_5, f22_7, f22_8])
    refine branch_by (fun d2 => ?_) (fun d2 => ?_)
    · skip
      refine wpE_seq fun K29 hK29 => ?_
      -- region 5
      refine wpE_gen fun ρ30 e30 => ?_
      have f30_5 := congrFun e30 5
      (simp only [go_sem, r11_8, q11_0, q11_1, q11_7, d1, hlt, hl, f22_0, f22_1, f22_5, f22_7, f22_8, d2] at f30_5)
      clear e30
      refine wpE_region ?_
      refine wpOs_step rfl fun K31 hK31 => ?_
      (try simp only [go_sem, r11_8, q11_0, q11_1, q11_7, d1, hlt, hl, d2, f30_5])
      refine hK31 _ _ _ ?_; clear hK31 K31
      refine wpOs_step rfl fun K32 hK32 => ?_
      (try simp only [go_sem, r11_8, q11_0, q11_1, q11_7, d1, hlt, hl, d2, f30_5])
      refine hK32 _ _ _ ?_; clear hK32 K32
      refine wpOs_end ?_
      refine hK29 _ _ _ ?_
      (try clear hK29 K29)
      refine wpE_ret ?_
      (try simp only [go_sem, r11_8, q11_0, q11_1, q11_7, d1, hlt, hl, d2, f30_5])
      refine fin_ret1 rfl ?_
      (try simp only [go_sem, r11_8, q11_0, q11_1, q11_7, d1, hlt, hl, d2, f30_5])
      -- leaf 0
      refine told_flat ?_ (by simp [FV, FVs])
      rw [hc, findF_at hl, if_pos d2]
    · skip
      refine wpE_skip ?_
      (try simp only [go_sem])
      refine hK16 _ _ _ ?_
      (try clear hK16 K16)
      -- region 6
      refine wpE_gen fun ρ33 e33 => ?_
      have f33_0 := congrFun e33 0
      (simp only [go_sem, r11_8, q11_0, q11_1, q11_7, d1, hlt, hl, f22_0, f22_1, f22_5, f22_7, f22_8, d2] at f33_0)
      have f33_1 := congrFun e33 1
      (simp only [go_sem, r11_8, q11_0, q11_1, q11_7, d1, hlt, hl, f22_0, f22_1, f22_5, f22_7, f22_8, d2] at f33_1)
      have f33_7 := congrFun e33 7
      (simp only [go_sem, r11_8, q11_0, q11_1, q11_7, d1, hlt, hl, f22_0, f22_1, f22_5, f22_7, f22_8, d2] at f33_7)
      have f33_8 := congrFun e33 8
      (simp only [go_sem, r11_8, q11_0, q11_1, q11_7, d1, hlt, hl, f22_0, f22_1, f22_5, f22_7, f22_8, d2] at f33_8)
      clear e33
      refine wpE_region ?_
      refine wpOs_step rfl fun K34 hK34 => ?_
      (try simp only [go_sem, r11_8, q11_0, q11_1, q11_7, d1, hlt, hl, d2, f33_0, f33_1, f33_7, f33_8])
      refine hK34 _ _ _ ?_; clear hK34 K34
      refine wpOs_step rfl fun K35 hK35 => ?_
      (try simp only [go_sem, r11_8, q11_0, q11_1, q11_7, d1, hlt, hl, d2, f33_0, f33_1, f33_7, f33_8])
      refine hK35 _ _ _ ?_; clear hK35 K35
      refine wpOs_end ?_
      refine hK11 _ _ _ _ (by omega) ⟨i + 1, rfl, rfl, rfl, (by first | rfl | (simp only [go_sem, r11_8, q11_0, q11_1, q11_7, d1, hlt, hl, d2, f33_0, f33_1, f33_7, f33_8, f10_0, f10_1, f10_7]; done) | (simp only [go_sem, r11_8, q11_0, q11_1, q11_7, d1, hlt, hl, d2, f33_0, f33_1, f33_7, f33_8, f10_0, f10_1, f10_7]; rfl) | (simp only [go_sem, r11_8, q11_0, q11_1, q11_7, d1, hlt, hl, d2, f33_0, f33_1, f33_7, f33_8, f10_0, f10_1, f10_7]; rw [wrap64 (by omega) (by omega)]; first | done | rfl | (congr 1; omega))), (by first | rfl | (simp only [go_sem, r11_8, q11_0, q11_1, q11_7, d1, hlt, hl, d2, f33_0, f33_1, f33_7, f33_8, f10_0, f10_1, f10_7]; done) | (simp only [go_sem, r11_8, q11_0, q11_1, q11_7, d1, hlt, hl, d2, f33_0, f33_1, f33_7, f33_8, f10_0, f10_1, f10_7]; rfl) | (simp only [go_sem, r11_8, q11_0, q11_1, q11_7, d1, hlt, hl, d2, f33_0, f33_1, f33_7, f33_8, f10_0, f10_1, f10_7]; rw [wrap64 (by omega) (by omega)]; first | done | rfl | (congr 1; omega))), (by first | rfl | (simp only [go_sem, r11_8, q11_0, q11_1, q11_7, d1, hlt, hl, d2, f33_0, f33_1, f33_7, f33_8, f10_0, f10_1, f10_7]; done) | (simp only [go_sem, r11_8, q11_0, q11_1, q11_7, d1, hlt, hl, d2, f33_0, f33_1, f33_7, f33_8, f10_0, f10_1, f10_7]; rfl) | (simp only [go_sem, r11_8, q11_0, q11_1, q11_7, d1, hlt, hl, d2, f33_0, f33_1, f33_7, f33_8, f10_0, f10_1, f10_7]; rw [wrap64 (by omega) (by omega)]; first | done | rfl | (congr 1; omega))), (by first | rfl | (simp only [go_sem, r11_8, q11_0, q11_1, q11_7, d1, hlt, hl, d2, f33_0, f33_1, f33_7, f33_8, f10_0, f10_1, f10_7]; done) | (simp only [go_sem, r11_8, q11_0, q11_1, q11_7, d1, hlt, hl, d2, f33_0, f33_1, f33_7, f33_8, f10_0, f10_1, f10_7]; rfl) | (simp only [go_sem, r11_8, q11_0, q11_1, q11_7, d1, hlt, hl, d2, f33_0, f33_1, f33_7, f33_8, f10_0, f10_1, f10_7]; rw [wrap64 (by omega) (by omega)]; first | done | rfl | (congr 1; omega))), (by omega), (by rw [hc, findF_at hl, if_neg (by simp [d2])])⟩
  · skip
    have hge : i = l.length := by simp at d1; omega
    refine wpE_exit ?_
    (try simp only [go_sem])
    (try simp only [go_sem])
    refine hK4 _ _ _ ?_
    (try clear hK4 K4)
    refine wpE_seq fun K36 hK36 => ?_
    -- region 7
    refine wpE_gen fun ρ37 e37 => ?_
    clear e37
    refine wpE_region ?_
    refine wpOs_step rfl fun K38 hK38 => ?_
    (try simp only [go_sem, r11_8, q11_0, q11_1, q11_7, d1])
    refine hK38 _ _ _ ?_; clear hK38 K38
    refine wpOs_end ?_
    refine hK36 _ _ _ ?_
    (try clear hK36 K36)
    refine wpE_ret ?_
    (try simp only [go_sem, r11_8, q11_0, q11_1, q11_7, d1])
    refine fin_ret1 rfl ?_
    (try simp only [go_sem, r11_8, q11_0, q11_1, q11_7, d1])
    -- leaf 1
    refine told_flat ?_ (by simp [FV, FVs])
    rw [hc, hge, List.drop_length]; rfl
set_option maxHeartbeats 4000000 in
theorem contains91_fun (m : List Bool) (n : Int) (hm : (m.length : Int) = n) (hn : 0 ≤ n ∧ n ≤ 400) (l : List Int) (hl0 : ∀ x ∈ l, litOk n x) (hlen : l.length ≤ 40) : Fun Try.prog 68 [lst l, .func 91 [] [.ipt [bls m] 0]] (.bool (l.any (holdsB m))) [] := by
  refine fun_walk (kk := 1000000) prog_ok (show Try.prog.funcs[68]? = some Try.f68 by kernel_rfl) (show Try.f68.body = some _ from rfl) (by kernel_rfl) (by show 2 ≤ _; decide) (by simp) ?_
  refine wpE_seq fun K1 hK1 => ?_
  -- region 0
  refine wpE_gen fun ρ2 e2 => ?_
  have f2_0 := congrFun e2 0
  (simp only [go_sem] at f2_0)
  have f2_1 := congrFun e2 1
  (simp only [go_sem] at f2_1)
  clear e2
  refine wpE_region ?_
  refine wpOs_step rfl fun K3 hK3 => ?_
  (try simp only [go_sem, f2_0, f2_1])
  refine hK3 _ _ _ ?_; clear hK3 K3
  refine wpOs_end ?_
  refine hK1 _ _ _ ?_
  (try clear hK1 K1)
  refine wpE_seq fun K4 hK4 => ?_
  -- region 1
  refine wpE_gen fun ρ5 e5 => ?_
  have f5_0 := congrFun e5 0
  (simp only [go_sem, f2_0, f2_1] at f5_0)
  have f5_1 := congrFun e5 1
  (simp only [go_sem, f2_0, f2_1] at f5_1)
  clear e5
  refine wpE_region ?_
  refine wpOs_step rfl fun K6 hK6 => ?_
  (try simp only [go_sem, f5_0, f5_1])
  refine hK6 _ _ _ ?_; clear hK6 K6
  refine wpOs_step rfl fun K7 hK7 => ?_
  (try simp only [go_sem, f5_0, f5_1])
  refine hK7 _ _ _ ?_; clear hK7 K7
  refine wpOs_step rfl fun K8 hK8 => ?_
  (try simp only [go_sem, f5_0, f5_1])
  refine call_fun (index91_fun m n hm hn l hl0 hlen) rfl rfl (fun _ => rfl) ?_
  (try simp only [go_sem, f5_0, f5_1])
  refine hK8 _ _ _ ?_; clear hK8 K8
  refine wpOs_step rfl fun K9 hK9 => ?_
  (try simp only [go_sem, f5_0, f5_1])
  refine hK9 _ _ _ ?_; clear hK9 K9
  refine wpOs_step rfl fun K10 hK10 => ?_
  (try simp only [go_sem, f5_0, f5_1])
  refine hK10 _ _ _ ?_; clear hK10 K10
  refine wpOs_end ?_
  refine hK4 _ _ _ ?_
  (try clear hK4 K4)
  refine wpE_ret ?_
  (try simp only [go_sem, f5_0, f5_1])
  refine fin_ret1 rfl ?_
  (try simp only [go_sem, f5_0, f5_1])
  -- leaf 0
  refine told_flat ?_ (by simp [FV, FVs])
  rw [findF_any]
set_option maxHeartbeats 4000000 in
theorem broken1_fun (m : List Bool) (n : Int) (hm : (m.length : Int) = n) (hn : 0 ≤ n ∧ n ≤ 400) (l : List Int) (hl0 : ∀ x ∈ l, litOk n x) (hlen : l.length ≤ 40) : Fun Try.prog 90 [lst l, .ipt [bls m] 0] (.bool (!l.any (holdsB m))) [] := by
  refine fun_walk (kk := 1000000) prog_ok (show Try.prog.funcs[90]? = some Try.f90 by kernel_rfl) (show Try.f90.body = some _ from rfl) (by kernel_rfl) (by show 2 ≤ _; decide) (by simp) ?_
  refine wpE_seq fun K1 hK1 => ?_
  -- region 0
  refine wpE_gen fun ρ2 e2 => ?_
  have f2_0 := congrFun e2 0
  (simp only [go_sem] at f2_0)
  have f2_1 := congrFun e2 1
  (simp only [go_sem] at f2_1)
  clear e2
  refine wpE_region ?_
  refine wpOs_step rfl fun K3 hK3 => ?_
  (try simp only [go_sem, f2_0, f2_1])
  refine hK3 _ _ _ ?_; clear hK3 K3
  refine wpOs_end ?_
  refine hK1 _ _ _ ?_
  (try clear hK1 K1)
  refine wpE_seq fun K4 hK4 => ?_
  -- region 1
  refine wpE_gen fun ρ5 e5 => ?_
  have f5_0 := congrFun e5 0
  (simp only [go_sem, f2_0, f2_1] at f5_0)
  have f5_1 := congrFun e5 1
  (simp only [go_sem, f2_0, f2_1] at f5_1)
  clear e5
  refine wpE_region ?_
  refine wpOs_step rfl fun K6 hK6 => ?_
  (try simp only [go_sem, f5_0, f5_1])
  refine hK6 _ _ _ ?_; clear hK6 K6
  refine wpOs_step rfl fun K7 hK7 => ?_
  (try simp only [go_sem, f5_0, f5_1])
  refine hK7 _ _ _ ?_; clear hK7 K7
  refine wpOs_step rfl fun K8 hK8 => ?_
  (try simp only [go_sem, f5_0, f5_1])
  refine call_fun (contains91_fun m n hm hn l hl0 hlen) rfl rfl (fun _ => rfl) ?_
  (try simp only [go_sem, f5_0, f5_1])
  refine hK8 _ _ _ ?_; clear hK8 K8
  refine wpOs_step rfl fun K9 hK9 => ?_
  (try simp only [go_sem, f5_0, f5_1])
  refine hK9 _ _ _ ?_; clear hK9 K9
  refine wpOs_step rfl fun K10 hK10 => ?_
  (try simp only [go_sem, f5_0, f5_1])
  refine hK10 _ _ _ ?_; clear hK10 K10
  refine wpOs_end ?_
  refine hK4 _ _ _ ?_
  (try clear hK4 K4)
  refine wpE_ret ?_
  (try simp only [go_sem, f5_0, f5_1])
  refine fin_ret1 rfl ?_
  (try simp only [go_sem, f5_0, f5_1])
  -- leaf 0
  exact told_flat rfl (by simp [FV, FVs])
set_option maxHeartbeats 4000000 in
theorem index90_fun (m : List Bool) (n : Int) (hm : (m.length : Int) = n) (hn : 0 ≤ n ∧ n ≤ 400) (L : List (List Int)) (hL0 : ∀ l ∈ L, ∀ x ∈ l, litOk n x) (hL1 : ∀ l ∈ L, l.length ≤ 40) (hlen : L.length ≤ 6000) : Fun Try.prog 89 [lls L, .func 90 [] [.ipt [bls m] 0]] (.int .i64 (findF (fun l => !l.any (holdsB m)) 0 L)) [] := by
  refine fun_walk (kk := 1000000) prog_ok (show Try.prog.funcs[89]? = some Try.f89 by kernel_rfl) (show Try.f89.body = some _ from rfl) (by kernel_rfl) (by show 2 ≤ _; decide) (by simp) ?_
  refine wpE_seq fun K1 hK1 => ?_
  -- region 0
  refine wpE_gen fun ρ2 e2 => ?_
  have f2_0 := congrFun e2 0
  (simp only [go_sem] at f2_0)
  have f2_1 := congrFun e2 1
  (simp only [go_sem] at f2_1)
  clear e2
  refine wpE_region ?_
  refine wpOs_step rfl fun K3 hK3 => ?_
  (try simp only [go_sem, f2_0, f2_1])
  refine hK3 _ _ _ ?_; clear hK3 K3
  refine wpOs_end ?_
  refine hK1 _ _ _ ?_
  (try clear hK1 K1)
  refine wpE_seq fun K4 hK4 => ?_
  refine wpE_seq fun K5 hK5 => ?_
  -- region 1
  refine wpE_gen fun ρ6 e6 => ?_
  have f6_0 := congrFun e6 0
  (simp only [go_sem, f2_0, f2_1] at f6_0)
  have f6_1 := congrFun e6 1
  (simp only [go_sem, f2_0, f2_1] at f6_1)
  clear e6
  refine wpE_region ?_
  refine wpOs_step rfl fun K7 hK7 => ?_
  (try simp only [go_sem, f6_0, f6_1])
  refine hK7 _ _ _ ?_; clear hK7 K7
  refine wpOs_step rfl fun K8 hK8 => ?_
  (try simp only [go_sem, f6_0, f6_1])
  refine hK8 _ _ _ ?_; clear hK8 K8
  refine wpOs_step rfl fun K9 hK9 => ?_
  (try simp only [go_sem, f6_0, f6_1])
  refine hK9 _ _ _ ?_; clear hK9 K9
  refine wpOs_end ?_
  refine hK5 _ _ _ ?_
  (try clear hK5 K5)
  refine wpE_block ?_
  refine wpE_gen fun ρ10 e10 => ?_
  have f10_0 := congrFun e10 0
  (simp only [go_sem, f6_0, f6_1] at f10_0)
  have f10_1 := congrFun e10 1
  (simp only [go_sem, f6_0, f6_1] at f10_1)
  have f10_7 := congrFun e10 7
  (simp only [go_sem, f6_0, f6_1] at f10_7)
  have f10_8 := congrFun e10 8
  (simp only [go_sem, f6_0, f6_1] at f10_8)
  clear e10
  refine wpE_loop (fun mm ρ df g => ∃ i : Nat, mm = L.length - i ∧ df = [] ∧ g = hL [] ∧ ρ 8 = .int .i64 (i : Nat) ∧ ρ 0 = ρ10 0 ∧ ρ 1 = ρ10 1 ∧ ρ 7 = ρ10 7 ∧ i ≤ L.length ∧ findF (fun l => !l.any (holdsB m)) 0 L = findF (fun l => !l.any (holdsB m)) i (L.drop i)) (L.length) (by omega) ⟨0, rfl, rfl, rfl, (by first | rfl | (simp only [go_sem, f10_0, f10_1, f10_7, f10_8]; done) | (simp only [go_sem, f10_0, f10_1, f10_7, f10_8]; rfl)), rfl, rfl, rfl, (by omega), (by rfl)⟩ ?_
  rintro m11 K11 hK11 ρ df g ⟨i, hm11, rfl, rfl, r11_8, q11_0, q11_1, q11_7, hi, hc⟩
  replace q11_0 := q11_0.trans f10_0
  replace q11_1 := q11_1.trans f10_1
  replace q11_7 := q11_7.trans f10_7
  refine wpE_seq fun K12 hK12 => ?_
  -- region 2
  refine wpE_gen fun ρ13 e13 => ?_
  have f13_0 := congrFun e13 0
  (simp only [go_sem, r11_8, q11_0, q11_1, q11_7] at f13_0)
  have f13_1 := congrFun e13 1
  (simp only [go_sem, r11_8, q11_0, q11_1, q11_7] at f13_1)
  have f13_7 := congrFun e13 7
  (simp only [go_sem, r11_8, q11_0, q11_1, q11_7] at f13_7)
  have f13_8 := congrFun e13 8
  (simp only [go_sem, r11_8, q11_0, q11_1, q11_7] at f13_8)
  clear e13
  refine wpE_region ?_
  refine wpOs_step rfl fun K14 hK14 => ?_
  (try simp only [go_sem, r11_8, q11_0, q11_1, q11_7, f13_0, f13_1, f13_7, f13_8])
  refine hK14 _ _ _ ?_; clear hK14 K14
  refine wpOs_end ?_
  refine hK12 _ _ _ ?_
  (try clear hK12 K12)
  refine wpE_seq fun K15 hK15 => ?_
  refine wpE_cond' ?_
  (try simp only [go_sem, r11_8, q11_0, q11_1, q11_7, f13_0, f13_1, f13_7, f13_8])
  refine branch_by (fun d1 => ?_) (fun d1 => ?_)
  · skip
    have hlt : i < L.length := by simpa using d1
    obtain ⟨l, hl⟩ := has_at hlt
    have hmem : l ∈ L := List.mem_iff_getElem?.2 ⟨i, hl⟩
    refine wpE_skip ?_
    (try simp only [go_sem])
    refine hK15 _ _ _ ?_
    (try clear hK15 K15)
    refine wpE_seq fun K16 hK16 => ?_
    refine wpE_block ?_
    refine wpE_seq fun K17 hK17 => ?_
    -- region 3
    refine wpE_gen fun ρ18 e18 => ?_
    have f18_0 := congrFun e18 0
    (simp only [go_sem, r11_8, q11_0, q11_1, q11_7, f13_0, f13_1, f13_7, f13_8, d1, hlt, hl] at f18_0)
    have f18_1 := congrFun e18 1
    (simp only [go_sem, r11_8, q11_0, q11_1, q11_7, f13_0, f13_1, f13_7, f13_8, d1, hlt, hl] at f18_1)
    have f18_7 := congrFun e18 7
    (simp only [go_sem, r11_8, q11_0, q11_1, q11_7, f13_0, f13_1, f13_7, f13_8, d1, hlt, hl] at f18_7)
    have f18_8 := congrFun e18 8
    (simp only [go_sem, r11_8, q11_0, q11_1, q11_7, f13_0, f13_1, f13_7, f13_8, d1, hlt, hl] at f18_8)
    clear e18
    refine wpE_region ?_
    refine wpOs_step rfl fun K19 hK19 => ?_
    (try simp only [go_sem, r11_8, q11_0, q11_1, q11_7, d1, hlt, hl, f18_0, f18_1, f18_7, f18_8])
    refine hK19 _ _ _ ?_; clear hK19 K19
    refine wpOs_step rfl fun K20 hK20 => ?_
    (try simp only [go_sem, r11_8, q11_0, q11_1, q11_7, d1, hlt, hl, f18_0, f18_1, f18_7, f18_8])
    refine hK20 _ _ _ ?_; clear hK20 K20
    refine wpOs_end ?_
    refine hK17 _ _ _ ?_
    (try clear hK17 K17)
    refine wpE_seq fun K21 hK21 => ?_
    -- region 4
    refine wpE_gen fun ρ22 e22 => ?_
    have f22_0 := congrFun e22 0
    (simp only [go_sem, r11_8, q11_0, q11_1, q11_7, d1, hlt, hl, f18_0, f18_1, f18_7, f18_8] at f22_0)
    have f22_1 := congrFun e22 1
    (simp only [go_sem, r11_8, q11_0, q11_1, q11_7, d1, hlt, hl, f18_0, f18_1, f18_7, f18_8] at f22_1)
    have f22_5 := congrFun e22 5
    (simp only [go_sem, r11_8, q11_0, q11_1, q11_7, d1, hlt, hl, f18_0, f18_1, f18_7, f18_8] at f22_5)
    have f22_7 := congrFun e22 7
    (simp only [go_sem, r11_8, q11_0, q11_1, q11_7, d1, hlt, hl, f18_0, f18_1, f18_7, f18_8] at f22_7)
    have f22_8 := congrFun e22 8
    (simp only [go_sem, r11_8, q11_0, q11_1, q11_7, d1, hlt, hl, f18_0, f18_1, f18_7, f18_8] at f22_8)
    clear e22
    refine wpE_region ?_
    refine wpOs_step rfl fun K23 hK23 => ?_
    (try simp only [go_sem, r11_8, q11_0, q11_1, q11_7, d1, hlt, hl, f22_0, f22_1, f22_5, f22_7, f22_8])
    refine hK23 _ _ _ ?_; clear hK23 K23
    refine wpOs_step rfl fun K24 hK24 => ?_
    (try simp only [go_sem, r11_8, q11_0, q11_1, q11_7, d1, hlt, hl, f22_0, f22_1, f22_5, f22_7, f22_8])
    refine hK24 _ _ _ ?_; clear hK24 K24
    refine wpOs_step rfl fun K25 hK25 => ?_
    (try simp only [go_sem, r11_8, q11_0, q11_1, q11_7, d1, hlt, hl, f22_0, f22_1, f22_5, f22_7, f22_8])
    refine hK25 _ _ _ ?_; clear hK25 K25
    refine wpOs_step rfl fun K26 hK26 => ?_
    (try simp only [go_sem, r11_8, q11_0, q11_1, q11_7, d1, hlt, hl, f22_0, f22_1, f22_5, f22_7, f22_8])
    refine hK26 _ _ _ ?_; clear hK26 K26
    refine wpOs_step rfl fun K27 hK27 => ?_
    (try simp only [go_sem, r11_8, q11_0, q11_1, q11_7, d1, hlt, hl, f22_0, f22_1, f22_5, f22_7, f22_8])
    refine hK27 _ _ _ ?_; clear hK27 K27
    refine wpOs_step rfl fun K28 hK28 => ?_
    (try simp only [go_sem, r11_8, q11_0, q11_1, q11_7, d1, hlt, hl, f22_0, f22_1, f22_5, f22_7, f22_8])
    refine call_fun (broken1_fun m n hm hn l (hL0 l hmem) (hL1 l hmem)) rfl rfl (fun _ => rfl) ?_
    (try simp only [go_sem, r11_8, q11_0, q11_1, q11_7, d1, hlt, hl, f22_0, f22_1, f22_5, f22_7, f22_8])
    refine hK28 _ _ _ ?_; clear hK28 K28
    refine wpOs_end ?_
    refine hK21 _ _ _ ?_
    (try clear hK21 K21)
    refine wpE_cond' ?_
    (try simp only [go_sem, r11_8, q11_0, q11_1, q11_7, d1, hlt, hl, f22_0, f22_1, f22_5, f22_7, f22_8])
    refine branch_by (fun d2 => ?_) (fun d2 => ?_)
    · skip
      refine wpE_seq fun K29 hK29 => ?_
      -- region 5
      refine wpE_gen fun ρ30 e30 => ?_
      have f30_5 := congrFun e30 5
      (simp only [go_sem, r11_8, q11_0, q11_1, q11_7, d1, hlt, hl, f22_0, f22_1, f22_5, f22_7, f22_8, d2] at f30_5)
      clear e30
      refine wpE_region ?_
      refine wpOs_step rfl fun K31 hK31 => ?_
      (try simp only [go_sem, r11_8, q11_0, q11_1, q11_7, d1, hlt, hl, d2, f30_5])
      refine hK31 _ _ _ ?_; clear hK31 K31
      refine wpOs_step rfl fun K32 hK32 => ?_
      (try simp only [go_sem, r11_8, q11_0, q11_1, q11_7, d1, hlt, hl, d2, f30_5])
      refine hK32 _ _ _ ?_; clear hK32 K32
      refine wpOs_end ?_
      refine hK29 _ _ _ ?_
      (try clear hK29 K29)
      refine wpE_ret ?_
      (try simp only [go_sem, r11_8, q11_0, q11_1, q11_7, d1, hlt, hl, d2, f30_5])
      refine fin_ret1 rfl ?_
      (try simp only [go_sem, r11_8, q11_0, q11_1, q11_7, d1, hlt, hl, d2, f30_5])
      -- leaf 0
      refine told_flat ?_ (by simp [FV, FVs])
      rw [hc, findF_at hl, if_pos d2]
    · skip
      refine wpE_skip ?_
      (try simp only [go_sem])
      refine hK16 _ _ _ ?_
      (try clear hK16 K16)
      -- region 6
      refine wpE_gen fun ρ33 e33 => ?_
      have f33_0 := congrFun e33 0
      (simp only [go_sem, r11_8, q11_0, q11_1, q11_7, d1, hlt, hl, f22_0, f22_1, f22_5, f22_7, f22_8, d2] at f33_0)
      have f33_1 := congrFun e33 1
      (simp only [go_sem, r11_8, q11_0, q11_1, q11_7, d1, hlt, hl, f22_0, f22_1, f22_5, f22_7, f22_8, d2] at f33_1)
      have f33_7 := congrFun e33 7
      (simp only [go_sem, r11_8, q11_0, q11_1, q11_7, d1, hlt, hl, f22_0, f22_1, f22_5, f22_7, f22_8, d2] at f33_7)
      have f33_8 := congrFun e33 8
      (simp only [go_sem, r11_8, q11_0, q11_1, q11_7, d1, hlt, hl, f22_0, f22_1, f22_5, f22_7, f22_8, d2] at f33_8)
      clear e33
      refine wpE_region ?_
      refine wpOs_step rfl fun K34 hK34 => ?_
      (try simp only [go_sem, r11_8, q11_0, q11_1, q11_7, d1, hlt, hl, d2, f33_0, f33_1, f33_7, f33_8])
      refine hK34 _ _ _ ?_; clear hK34 K34
      refine wpOs_step rfl fun K35 hK35 => ?_
      (try simp only [go_sem, r11_8, q11_0, q11_1, q11_7, d1, hlt, hl, d2, f33_0, f33_1, f33_7, f33_8])
      refine hK35 _ _ _ ?_; clear hK35 K35
      refine wpOs_end ?_
      refine hK11 _ _ _ _ (by omega) ⟨i + 1, rfl, rfl, rfl, (by first | rfl | (simp only [go_sem, r11_8, q11_0, q11_1, q11_7, d1, hlt, hl, d2, f33_0, f33_1, f33_7, f33_8, f10_0, f10_1, f10_7]; done) | (simp only [go_sem, r11_8, q11_0, q11_1, q11_7, d1, hlt, hl, d2, f33_0, f33_1, f33_7, f33_8, f10_0, f10_1, f10_7]; rfl) | (simp only [go_sem, r11_8, q11_0, q11_1, q11_7, d1, hlt, hl, d2, f33_0, f33_1, f33_7, f33_8, f10_0, f10_1, f10_7]; rw [wrap64 (by omega) (by omega)]; first | done | rfl | (congr 1; omega))), (by first | rfl | (simp only [go_sem, r11_8, q11_0, q11_1, q11_7, d1, hlt, hl, d2, f33_0, f33_1, f33_7, f33_8, f10_0, f10_1, f10_7]; done) | (simp only [go_sem, r11_8, q11_0, q11_1, q11_7, d1, hlt, hl, d2, f33_0, f33_1, f33_7, f33_8, f10_0, f10_1, f10_7]; rfl) | (simp only [go_sem, r11_8, q11_0, q11_1, q11_7, d1, hlt, hl, d2, f33_0, f33_1, f33_7, f33_8, f10_0, f10_1, f10_7]; rw [wrap64 (by omega) (by omega)]; first | done | rfl | (congr 1; omega))), (by first | rfl | (simp only [go_sem, r11_8, q11_0, q11_1, q11_7, d1, hlt, hl, d2, f33_0, f33_1, f33_7, f33_8, f10_0, f10_1, f10_7]; done) | (simp only [go_sem, r11_8, q11_0, q11_1, q11_7, d1, hlt, hl, d2, f33_0, f33_1, f33_7, f33_8, f10_0, f10_1, f10_7]; rfl) | (simp only [go_sem, r11_8, q11_0, q11_1, q11_7, d1, hlt, hl, d2, f33_0, f33_1, f33_7, f33_8, f10_0, f10_1, f10_7]; rw [wrap64 (by omega) (by omega)]; first | done | rfl | (congr 1; omega))), (by first | rfl | (simp only [go_sem, r11_8, q11_0, q11_1, q11_7, d1, hlt, hl, d2, f33_0, f33_1, f33_7, f33_8, f10_0, f10_1, f10_7]; done) | (simp only [go_sem, r11_8, q11_0, q11_1, q11_7, d1, hlt, hl, d2, f33_0, f33_1, f33_7, f33_8, f10_0, f10_1, f10_7]; rfl) | (simp only [go_sem, r11_8, q11_0, q11_1, q11_7, d1, hlt, hl, d2, f33_0, f33_1, f33_7, f33_8, f10_0, f10_1, f10_7]; rw [wrap64 (by omega) (by omega)]; first | done | rfl | (congr 1; omega))), (by omega), (by rw [hc, findF_at hl, if_neg (by simp [d2])])⟩
  · skip
    have hge : i = L.length := by simp at d1; omega
    refine wpE_exit ?_
    (try simp only [go_sem])
    (try simp only [go_sem])
    refine hK4 _ _ _ ?_
    (try clear hK4 K4)
    refine wpE_seq fun K36 hK36 => ?_
    -- region 7
    refine wpE_gen fun ρ37 e37 => ?_
    clear e37
    refine wpE_region ?_
    refine wpOs_step rfl fun K38 hK38 => ?_
    (try simp only [go_sem, r11_8, q11_0, q11_1, q11_7, d1])
    refine hK38 _ _ _ ?_; clear hK38 K38
    refine wpOs_end ?_
    refine hK36 _ _ _ ?_
    (try clear hK36 K36)
    refine wpE_ret ?_
    (try simp only [go_sem, r11_8, q11_0, q11_1, q11_7, d1])
    refine fin_ret1 rfl ?_
    (try simp only [go_sem, r11_8, q11_0, q11_1, q11_7, d1])
    -- leaf 1
    refine told_flat ?_ (by simp [FV, FVs])
    rw [hc, hge, List.drop_length]; rfl
set_option maxHeartbeats 4000000 in
theorem broken_fun (m : List Bool) (n : Int) (hm : (m.length : Int) = n) (hn : 0 ≤ n ∧ n ≤ 400) (L : List (List Int)) (hL0 : ∀ l ∈ L, ∀ x ∈ l, litOk n x) (hL1 : ∀ l ∈ L, l.length ≤ 40) (hlen : L.length ≤ 6000) : Fun Try.prog 65 [cl n L, bls m] (.int .i64 (let b := findF (fun l => !l.any (holdsB m)) 0 L; if b > -1 then b else -1)) [] := by
  refine fun_walk (kk := 1000000) prog_ok (show Try.prog.funcs[65]? = some Try.f65 by kernel_rfl) (show Try.f65.body = some _ from rfl) (by kernel_rfl) (by show 2 ≤ _; decide) (by simp) ?_
  refine wpE_seq fun K1 hK1 => ?_
  -- region 0
  refine wpE_gen fun ρ2 e2 => ?_
  have f2_0 := congrFun e2 0
  (simp only [go_sem] at f2_0)
  have f2_1 := congrFun e2 1
  (simp only [go_sem] at f2_1)
  clear e2
  refine wpE_region ?_
  refine wpOs_step rfl fun K3 hK3 => ?_
  (try simp only [go_sem, f2_0, f2_1])
  refine hK3 _ _ _ ?_; clear hK3 K3
  refine wpOs_step rfl fun K4 hK4 => ?_
  (try simp only [go_sem, f2_0, f2_1])
  refine hK4 _ _ _ ?_; clear hK4 K4
  refine wpOs_step rfl fun K5 hK5 => ?_
  (try simp only [go_sem, f2_0, f2_1])
  refine hK5 _ _ _ ?_; clear hK5 K5
  refine wpOs_end ?_
  refine hK1 _ _ _ ?_
  (try clear hK1 K1)
  refine wpE_seq fun K6 hK6 => ?_
  -- region 1
  refine wpE_gen fun ρ7 e7 => ?_
  have f7_2 := congrFun e7 2
  (simp only [go_sem, f2_0, f2_1] at f7_2)
  have f7_3 := congrFun e7 3
  (simp only [go_sem, f2_0, f2_1] at f7_3)
  clear e7
  refine wpE_region ?_
  refine wpOs_step rfl fun K8 hK8 => ?_
  (try simp only [go_sem, f7_2, f7_3])
  refine hK8 _ _ _ ?_; clear hK8 K8
  refine wpOs_step rfl fun K9 hK9 => ?_
  (try simp only [go_sem, f7_2, f7_3])
  refine hK9 _ _ _ ?_; clear hK9 K9
  refine wpOs_step rfl fun K10 hK10 => ?_
  (try simp only [go_sem, f7_2, f7_3])
  refine hK10 _ _ _ ?_; clear hK10 K10
  refine wpOs_step rfl fun K11 hK11 => ?_
  (try simp only [go_sem, f7_2, f7_3])
  refine call_bor (index90_fun m n hm hn L hL0 hL1 hlen) ?_ rfl (by simp) ?_
  · exact .cn FV.lst (.cn (.fn .nl (.cn (FV.box rfl (by rw [hL_get]; rfl) (.cn FV.lst .nl)) .nl)) .nl)
  (try simp only [go_sem, f7_2, f7_3])
  refine hK11 _ _ _ ?_; clear hK11 K11
  refine wpOs_step rfl fun K12 hK12 => ?_
  (try simp only [go_sem, f7_2, f7_3])
  refine hK12 _ _ _ ?_; clear hK12 K12
  refine wpOs_step rfl fun K13 hK13 => ?_
  (try simp only [go_sem, f7_2, f7_3])
  refine hK13 _ _ _ ?_; clear hK13 K13
  refine wpOs_end ?_
  refine hK6 _ _ _ ?_
  (try clear hK6 K6)
  refine wpE_ret ?_
  (try simp only [go_sem, f7_2, f7_3])
  refine fin_ret1 rfl ?_
  (try simp only [go_sem, f7_2, f7_3])
  -- leaf 0
  exact told_flat rfl (by simp [FV, FVs])
set_option maxHeartbeats 4000000 in
theorem satisfies_fun (n : Int) (L : List (List Int)) (hI : ∀ l ∈ L, ∀ x ∈ l, inI64 x) (hI2 : ∀ l ∈ L, l.length ≤ 50) (m : List Bool) : Fun Try.prog 29 [cl n L, bls m] (.tuple [.bool (satisfiesF n L m).1, .int .i64 (satisfiesF n L m).2.1, .int .i64 (satisfiesF n L m).2.2]) [] := by
  refine fun_walk (kk := 1000000) prog_ok (show Try.prog.funcs[29]? = some Try.f29 by kernel_rfl) (show Try.f29.body = some _ from rfl) (by kernel_rfl) (by show 2 ≤ _; decide) (by simp) ?_
  refine wpE_seq fun K1 hK1 => ?_
  -- region 0
  refine wpE_gen fun ρ2 e2 => ?_
  have f2_0 := congrFun e2 0
  (simp only [go_sem] at f2_0)
  have f2_1 := congrFun e2 1
  (simp only [go_sem] at f2_1)
  clear e2
  refine wpE_region ?_
  refine wpOs_step rfl fun K3 hK3 => ?_
  (try simp only [go_sem, f2_0, f2_1])
  refine hK3 _ _ _ ?_; clear hK3 K3
  refine wpOs_step rfl fun K4 hK4 => ?_
  (try simp only [go_sem, f2_0, f2_1])
  refine hK4 _ _ _ ?_; clear hK4 K4
  refine wpOs_step rfl fun K5 hK5 => ?_
  (try simp only [go_sem, f2_0, f2_1])
  refine hK5 _ _ _ ?_; clear hK5 K5
  refine wpOs_step rfl fun K6 hK6 => ?_
  (try simp only [go_sem, f2_0, f2_1])
  refine hK6 _ _ _ ?_; clear hK6 K6
  refine wpOs_end ?_
  refine hK1 _ _ _ ?_
  (try clear hK1 K1)
  refine wpE_seq fun K7 hK7 => ?_
  refine wpE_seq fun K8 hK8 => ?_
  -- region 1
  refine wpE_gen fun ρ9 e9 => ?_
  have f9_1 := congrFun e9 1
  (simp only [go_sem, f2_0, f2_1] at f9_1)
  have f9_2 := congrFun e9 2
  (simp only [go_sem, f2_0, f2_1] at f9_2)
  clear e9
  refine wpE_region ?_
  refine wpOs_step rfl fun K10 hK10 => ?_
  (try simp only [go_sem, f9_1, f9_2])
  refine hK10 _ _ _ ?_; clear hK10 K10
  refine wpOs_step rfl fun K11 hK11 => ?_
  (try simp only [go_sem, f9_1, f9_2])
  refine call_fun (formulaErr_fun n L hI) rfl rfl (fun _ => rfl) ?_
  (try simp only [go_sem, f9_1, f9_2])
  refine hK11 _ _ _ ?_; clear hK11 K11
  refine wpOs_step rfl fun K12 hK12 => ?_
  (try simp only [go_sem, f9_1, f9_2])
  refine hK12 _ _ _ ?_; clear hK12 K12
  refine wpOs_end ?_
  refine hK8 _ _ _ ?_
  (try clear hK8 K8)
  refine wpE_seq fun K13 hK13 => ?_
  -- region 2
  refine wpE_gen fun ρ14 e14 => ?_
  have f14_1 := congrFun e14 1
  (simp only [go_sem, f9_1, f9_2] at f14_1)
  have f14_2 := congrFun e14 2
  (simp only [go_sem, f9_1, f9_2] at f14_2)
  have f14_7 := congrFun e14 7
  (simp only [go_sem, f9_1, f9_2] at f14_7)
  clear e14
  refine wpE_region ?_
  refine wpOs_step rfl fun K15 hK15 => ?_
  (try simp only [go_sem, f14_1, f14_2, f14_7])
  refine hK15 _ _ _ ?_; clear hK15 K15
  refine wpOs_step rfl fun K16 hK16 => ?_
  (try simp only [go_sem, f14_1, f14_2, f14_7])
  refine hK16 _ _ _ ?_; clear hK16 K16
  refine wpOs_end ?_
  refine hK13 _ _ _ ?_
  (try clear hK13 K13)
  refine wpE_cond' ?_
  (try simp only [go_sem, f14_1, f14_2, f14_7])
  refine branch_by (fun d1 => ?_) (fun d1 => ?_)
  · skip
    refine wpE_seq fun K17 hK17 => ?_
    -- region 3
    refine wpE_gen fun ρ18 e18 => ?_
    have f18_7 := congrFun e18 7
    (simp only [go_sem, f14_1, f14_2, f14_7, d1] at f18_7)
    clear e18
    refine wpE_region ?_
    refine wpOs_step rfl fun K19 hK19 => ?_
    (try simp only [go_sem, d1, f18_7])
    refine hK19 _ _ _ ?_; clear hK19 K19
    refine wpOs_step rfl fun K20 hK20 => ?_
    (try simp only [go_sem, d1, f18_7])
    refine hK20 _ _ _ ?_; clear hK20 K20
    refine wpOs_step rfl fun K21 hK21 => ?_
    (try simp only [go_sem, d1, f18_7])
    refine hK21 _ _ _ ?_; clear hK21 K21
    refine wpOs_step rfl fun K22 hK22 => ?_
    (try simp only [go_sem, d1, f18_7])
    refine hK22 _ _ _ ?_; clear hK22 K22
    refine wpOs_end ?_
    refine hK17 _ _ _ ?_
    (try clear hK17 K17)
    refine wpE_ret ?_
    (try simp only [go_sem, d1, f18_7])
    refine fin_ret3 rfl ?_
    (try simp only [go_sem, d1, f18_7])
    -- leaf 0
    refine told_flat ?_ (by simp [FV, FVs])
    rw [show satisfiesF n L m = (false, 0, (checkF n L).2) by unfold satisfiesF; rw [if_pos (by simpa using d1)]]
  · skip
    have h0 : (checkF n L).2 = 0 := by simpa using d1
    have hok := checkF_ok h0
    refine wpE_skip ?_
    (try simp only [go_sem])
    refine hK7 _ _ _ ?_
    (try clear hK7 K7)
    refine wpE_seq fun K23 hK23 => ?_
    refine wpE_seq fun K24 hK24 => ?_
    -- region 4
    refine wpE_gen fun ρ25 e25 => ?_
    have f25_1 := congrFun e25 1
    (simp only [go_sem, f14_1, f14_2, f14_7, d1] at f25_1)
    have f25_2 := congrFun e25 2
    (simp only [go_sem, f14_1, f14_2, f14_7, d1] at f25_2)
    clear e25
    refine wpE_region ?_
    refine wpOs_step rfl fun K26 hK26 => ?_
    (try simp only [go_sem, d1, f25_1, f25_2])
    refine hK26 _ _ _ ?_; clear hK26 K26
    refine wpOs_step rfl fun K27 hK27 => ?_
    (try simp only [go_sem, d1, f25_1, f25_2])
    refine hK27 _ _ _ ?_; clear hK27 K27
    refine wpOs_step rfl fun K28 hK28 => ?_
    (try simp only [go_sem, d1, f25_1, f25_2])
    refine hK28 _ _ _ ?_; clear hK28 K28
    refine wpOs_step rfl fun K29 hK29 => ?_
    (try simp only [go_sem, d1, f25_1, f25_2])
    refine hK29 _ _ _ ?_; clear hK29 K29
    refine wpOs_step rfl fun K30 hK30 => ?_
    (try simp only [go_sem, d1, f25_1, f25_2])
    refine hK30 _ _ _ ?_; clear hK30 K30
    refine wpOs_end ?_
    refine hK24 _ _ _ ?_
    (try clear hK24 K24)
    refine wpE_cond' ?_
    (try simp only [go_sem, d1, f25_1, f25_2])
    refine branch_by (fun d2 => ?_) (fun d2 => ?_)
    · skip
      refine wpE_seq fun K31 hK31 => ?_
      -- region 5
      refine wpE_gen fun ρ32 e32 => ?_
      clear e32
      refine wpE_region ?_
      refine wpOs_step rfl fun K33 hK33 => ?_
      (try simp only [go_sem, d1, d2])
      refine hK33 _ _ _ ?_; clear hK33 K33
      refine wpOs_step rfl fun K34 hK34 => ?_
      (try simp only [go_sem, d1, d2])
      refine hK34 _ _ _ ?_; clear hK34 K34
      refine wpOs_step rfl fun K35 hK35 => ?_
      (try simp only [go_sem, d1, d2])
      refine hK35 _ _ _ ?_; clear hK35 K35
      refine wpOs_end ?_
      refine hK31 _ _ _ ?_
      (try clear hK31 K31)
      refine wpE_ret ?_
      (try simp only [go_sem, d1, d2])
      refine fin_ret3 rfl ?_
      (try simp only [go_sem, d1, d2])
      -- leaf 1
      refine told_flat ?_ (by simp [FV, FVs])
      rw [show satisfiesF n L m = (false, 0, 6) by unfold satisfiesF; rw [if_neg (by simp [h0]), if_pos (by simpa using d2)]]
    · skip
      have hm : (m.length : Int) = n := by simpa using d2
      refine wpE_skip ?_
      (try simp only [go_sem])
      refine hK23 _ _ _ ?_
      (try clear hK23 K23)
      refine wpE_seq fun K36 hK36 => ?_
      refine wpE_seq fun K37 hK37 => ?_
      -- region 6
      refine wpE_gen fun ρ38 e38 => ?_
      have f38_1 := congrFun e38 1
      (simp only [go_sem, d1, f25_1, f25_2, d2] at f38_1)
      have f38_2 := congrFun e38 2
      (simp only [go_sem, d1, f25_1, f25_2, d2] at f38_2)
      clear e38
      refine wpE_region ?_
      refine wpOs_step rfl fun K39 hK39 => ?_
      (try simp only [go_sem, d1, d2, f38_1, f38_2])
      refine hK39 _ _ _ ?_; clear hK39 K39
      refine wpOs_step rfl fun K40 hK40 => ?_
      (try simp only [go_sem, d1, d2, f38_1, f38_2])
      refine hK40 _ _ _ ?_; clear hK40 K40
      refine wpOs_step rfl fun K41 hK41 => ?_
      (try simp only [go_sem, d1, d2, f38_1, f38_2])
      refine call_fun (broken_fun m n hm hok.1 L (checkF_lits h0) (fun l hl => clauseF_len (hok.2.2 l hl)) hok.2.1) rfl rfl (fun _ => rfl) ?_
      (try simp only [go_sem, d1, d2, f38_1, f38_2])
      refine hK41 _ _ _ ?_; clear hK41 K41
      refine wpOs_step rfl fun K42 hK42 => ?_
      (try simp only [go_sem, d1, d2, f38_1, f38_2])
      refine hK42 _ _ _ ?_; clear hK42 K42
      refine wpOs_end ?_
      refine hK37 _ _ _ ?_
      (try clear hK37 K37)
      refine wpE_seq fun K43 hK43 => ?_
      -- region 7
      refine wpE_gen fun ρ44 e44 => ?_
      have f44_8 := congrFun e44 8
      (simp only [go_sem, d1, d2, f38_1, f38_2] at f44_8)
      clear e44
      refine wpE_region ?_
      refine wpOs_step rfl fun K45 hK45 => ?_
      (try simp only [go_sem, d1, d2, f44_8])
      refine hK45 _ _ _ ?_; clear hK45 K45
      refine wpOs_step rfl fun K46 hK46 => ?_
      (try simp only [go_sem, d1, d2, f44_8])
      refine hK46 _ _ _ ?_; clear hK46 K46
      refine wpOs_end ?_
      refine hK43 _ _ _ ?_
      (try clear hK43 K43)
      refine wpE_cond' ?_
      (try simp only [go_sem, d1, d2, f44_8])
      refine branch_by (fun d3 => ?_) (fun d3 => ?_)
      · skip
        refine wpE_seq fun K47 hK47 => ?_
        -- region 8
        refine wpE_gen fun ρ48 e48 => ?_
        have f48_8 := congrFun e48 8
        (simp only [go_sem, d1, d2, f44_8, d3] at f48_8)
        clear e48
        refine wpE_region ?_
        refine wpOs_step rfl fun K49 hK49 => ?_
        (try simp only [go_sem, d1, d2, d3, f48_8])
        refine hK49 _ _ _ ?_; clear hK49 K49
        refine wpOs_step rfl fun K50 hK50 => ?_
        (try simp only [go_sem, d1, d2, d3, f48_8])
        refine hK50 _ _ _ ?_; clear hK50 K50
        refine wpOs_step rfl fun K51 hK51 => ?_
        (try simp only [go_sem, d1, d2, d3, f48_8])
        refine hK51 _ _ _ ?_; clear hK51 K51
        refine wpOs_step rfl fun K52 hK52 => ?_
        (try simp only [go_sem, d1, d2, d3, f48_8])
        refine hK52 _ _ _ ?_; clear hK52 K52
        refine wpOs_end ?_
        refine hK47 _ _ _ ?_
        (try clear hK47 K47)
        refine wpE_ret ?_
        (try simp only [go_sem, d1, d2, d3, f48_8])
        refine fin_ret3 rfl ?_
        (try simp only [go_sem, d1, d2, d3, f48_8])
        -- leaf 2
        refine told_flat ?_ (by simp [FV, FVs])
        rw [show satisfiesF n L m = (false, (let b := findF (fun l => !l.any (holdsB m)) 0 L; if b > -1 then b else -1), 0) by unfold satisfiesF; rw [if_neg (by simp [h0]), if_neg (by simp [hm])]; simp only []; rw [if_pos (by simpa using d3)]]
      · skip
        refine wpE_skip ?_
        (try simp only [go_sem])
        refine hK36 _ _ _ ?_
        (try clear hK36 K36)
        refine wpE_seq fun K53 hK53 => ?_
        -- region 9
        refine wpE_gen fun ρ54 e54 => ?_
        clear e54
        refine wpE_region ?_
        refine wpOs_step rfl fun K55 hK55 => ?_
        (try simp only [go_sem, d1, d2, d3])
        refine hK55 _ _ _ ?_; clear hK55 K55
        refine wpOs_step rfl fun K56 hK56 => ?_
        (try simp only [go_sem, d1, d2, d3])
        refine hK56 _ _ _ ?_; clear hK56 K56
        refine wpOs_step rfl fun K57 hK57 => ?_
        (try simp only [go_sem, d1, d2, d3])
        refine hK57 _ _ _ ?_; clear hK57 K57
        refine wpOs_end ?_
        refine hK53 _ _ _ ?_
        (try clear hK53 K53)
        refine wpE_ret ?_
        (try simp only [go_sem, d1, d2, d3])
        refine fin_ret3 rfl ?_
        (try simp only [go_sem, d1, d2, d3])
        -- leaf 3
        refine told_flat ?_ (by simp [FV, FVs])
        rw [show satisfiesF n L m = (true, 0, 0) by unfold satisfiesF; rw [if_neg (by simp [h0]), if_neg (by simp [hm])]; simp only []; rw [if_neg (by simpa using d3)]]
set_option maxHeartbeats 4000000 in
theorem satisfied_fun (m : List Bool) (n : Int) (hm : (m.length : Int) = n) (hn : 0 ≤ n ∧ n ≤ 400) (L : List (List Int)) (hL0 : ∀ l ∈ L, ∀ x ∈ l, litOk n x) (hL1 : ∀ l ∈ L, l.length ≤ 40) (hlen : L.length ≤ 6000) : Fun Try.prog 30 [lls L, bls m] (.tuple [.bool (satF m 0 L).1, .int .i64 (satF m 0 L).2]) [] := by
  refine fun_walk (kk := 1000000) prog_ok (show Try.prog.funcs[30]? = some Try.f30 by kernel_rfl) (show Try.f30.body = some _ from rfl) (by kernel_rfl) (by show 2 ≤ _; decide) (by simp) ?_
  refine wpE_seq fun K1 hK1 => ?_
  -- region 0
  refine wpE_gen fun ρ2 e2 => ?_
  have f2_0 := congrFun e2 0
  (simp only [go_sem] at f2_0)
  have f2_1 := congrFun e2 1
  (simp only [go_sem] at f2_1)
  clear e2
  refine wpE_region ?_
  refine wpOs_step rfl fun K3 hK3 => ?_
  (try simp only [go_sem, f2_0, f2_1])
  refine hK3 _ _ _ ?_; clear hK3 K3
  refine wpOs_step rfl fun K4 hK4 => ?_
  (try simp only [go_sem, f2_0, f2_1])
  refine hK4 _ _ _ ?_; clear hK4 K4
  refine wpOs_end ?_
  refine hK1 _ _ _ ?_
  (try clear hK1 K1)
  refine wpE_seq fun K5 hK5 => ?_
  refine wpE_seq fun K6 hK6 => ?_
  -- region 1
  refine wpE_gen fun ρ7 e7 => ?_
  have f7_0 := congrFun e7 0
  (simp only [go_sem, f2_0, f2_1] at f7_0)
  have f7_1 := congrFun e7 1
  (simp only [go_sem, f2_0, f2_1] at f7_1)
  clear e7
  refine wpE_region ?_
  refine wpOs_step rfl fun K8 hK8 => ?_
  (try simp only [go_sem, f7_0, f7_1])
  refine hK8 _ _ _ ?_; clear hK8 K8
  refine wpOs_end ?_
  refine hK6 _ _ _ ?_
  (try clear hK6 K6)
  refine wpE_block ?_
  refine wpE_gen fun ρ9 e9 => ?_
  have f9_0 := congrFun e9 0
  (simp only [go_sem, f7_0, f7_1] at f9_0)
  have f9_1 := congrFun e9 1
  (simp only [go_sem, f7_0, f7_1] at f9_1)
  have f9_6 := congrFun e9 6
  (simp only [go_sem, f7_0, f7_1] at f9_6)
  clear e9
  refine wpE_loop (fun mm ρ df g => ∃ i : Nat, mm = L.length - i ∧ df = [] ∧ g = hL [] ∧ ρ 6 = .int .i64 (i : Nat) ∧ ρ 0 = ρ9 0 ∧ ρ 1 = ρ9 1 ∧ i ≤ L.length ∧ satF m 0 L = satF m i (L.drop i)) (L.length) (by omega) ⟨0, rfl, rfl, rfl, (by first | rfl | (simp only [go_sem, f9_0, f9_1, f9_6]; done) | (simp only [go_sem, f9_0, f9_1, f9_6]; rfl)), rfl, rfl, (by omega), (by rfl)⟩ ?_
  rintro m10 K10 hK10 ρ df g ⟨i, hm10, rfl, rfl, r10_6, q10_0, q10_1, hi, hc⟩
  replace q10_0 := q10_0.trans f9_0
  replace q10_1 := q10_1.trans f9_1
  refine wpE_seq fun K11 hK11 => ?_
  refine wpE_seq fun K12 hK12 => ?_
  -- region 2
  refine wpE_gen fun ρ13 e13 => ?_
  have f13_0 := congrFun e13 0
  (simp only [go_sem, r10_6, q10_0, q10_1] at f13_0)
  have f13_1 := congrFun e13 1
  (simp only [go_sem, r10_6, q10_0, q10_1] at f13_1)
  have f13_6 := congrFun e13 6
  (simp only [go_sem, r10_6, q10_0, q10_1] at f13_6)
  clear e13
  refine wpE_region ?_
  refine wpOs_step rfl fun K14 hK14 => ?_
  (try simp only [go_sem, r10_6, q10_0, q10_1, f13_0, f13_1, f13_6])
  refine hK14 _ _ _ ?_; clear hK14 K14
  refine wpOs_step rfl fun K15 hK15 => ?_
  (try simp only [go_sem, r10_6, q10_0, q10_1, f13_0, f13_1, f13_6])
  refine hK15 _ _ _ ?_; clear hK15 K15
  refine wpOs_step rfl fun K16 hK16 => ?_
  (try simp only [go_sem, r10_6, q10_0, q10_1, f13_0, f13_1, f13_6])
  refine hK16 _ _ _ ?_; clear hK16 K16
  refine wpOs_step rfl fun K17 hK17 => ?_
  (try simp only [go_sem, r10_6, q10_0, q10_1, f13_0, f13_1, f13_6])
  refine hK17 _ _ _ ?_; clear hK17 K17
  refine wpOs_end ?_
  refine hK12 _ _ _ ?_
  (try clear hK12 K12)
  refine wpE_cond' ?_
  (try simp only [go_sem, r10_6, q10_0, q10_1, f13_0, f13_1, f13_6])
  refine branch_by (fun d1 => ?_) (fun d1 => ?_)
  · skip
    have hlt : i < L.length := by simpa using d1
    obtain ⟨l, hl⟩ := has_at hlt
    have hmem : l ∈ L := List.mem_iff_getElem?.2 ⟨i, hl⟩
    have hlen1 := hL1 l hmem
    refine wpE_skip ?_
    (try simp only [go_sem])
    refine hK11 _ _ _ ?_
    (try clear hK11 K11)
    refine wpE_seq fun K18 hK18 => ?_
    refine wpE_block ?_
    refine wpE_seq fun K19 hK19 => ?_
    -- region 4
    refine wpE_gen fun ρ20 e20 => ?_
    have f20_0 := congrFun e20 0
    (simp only [go_sem, r10_6, q10_0, q10_1, f13_0, f13_1, f13_6, d1, hlt, hl] at f20_0)
    have f20_1 := congrFun e20 1
    (simp only [go_sem, r10_6, q10_0, q10_1, f13_0, f13_1, f13_6, d1, hlt, hl] at f20_1)
    have f20_6 := congrFun e20 6
    (simp only [go_sem, r10_6, q10_0, q10_1, f13_0, f13_1, f13_6, d1, hlt, hl] at f20_6)
    clear e20
    refine wpE_region ?_
    refine wpOs_step rfl fun K21 hK21 => ?_
    (try simp only [go_sem, r10_6, q10_0, q10_1, d1, hlt, hl, f20_0, f20_1, f20_6])
    refine hK21 _ _ _ ?_; clear hK21 K21
    refine wpOs_end ?_
    refine hK19 _ _ _ ?_
    (try clear hK19 K19)
    refine wpE_seq fun K22 hK22 => ?_
    refine wpE_seq fun K23 hK23 => ?_
    -- region 5
    refine wpE_gen fun ρ24 e24 => ?_
    have f24_0 := congrFun e24 0
    (simp only [go_sem, r10_6, q10_0, q10_1, d1, hlt, hl, f20_0, f20_1, f20_6] at f24_0)
    have f24_1 := congrFun e24 1
    (simp only [go_sem, r10_6, q10_0, q10_1, d1, hlt, hl, f20_0, f20_1, f20_6] at f24_1)
    have f24_6 := congrFun e24 6
    (simp only [go_sem, r10_6, q10_0, q10_1, d1, hlt, hl, f20_0, f20_1, f20_6] at f24_6)
    have f24_7 := congrFun e24 7
    (simp only [go_sem, r10_6, q10_0, q10_1, d1, hlt, hl, f20_0, f20_1, f20_6] at f24_7)
    clear e24
    refine wpE_region ?_
    refine wpOs_step rfl fun K25 hK25 => ?_
    (try simp only [go_sem, r10_6, q10_0, q10_1, d1, hlt, hl, f24_0, f24_1, f24_6, f24_7])
    refine hK25 _ _ _ ?_; clear hK25 K25
    refine wpOs_end ?_
    refine hK23 _ _ _ ?_
    (try clear hK23 K23)
    refine wpE_block ?_
    refine wpE_gen fun ρ26 e26 => ?_
    have f26_0 := congrFun e26 0
    (simp only [go_sem, r10_6, q10_0, q10_1, d1, hlt, hl, f24_0, f24_1, f24_6, f24_7] at f26_0)
    have f26_1 := congrFun e26 1
    (simp only [go_sem, r10_6, q10_0, q10_1, d1, hlt, hl, f24_0, f24_1, f24_6, f24_7] at f26_1)
    have f26_6 := congrFun e26 6
    (simp only [go_sem, r10_6, q10_0, q10_1, d1, hlt, hl, f24_0, f24_1, f24_6, f24_7] at f26_6)
    have f26_7 := congrFun e26 7
    (simp only [go_sem, r10_6, q10_0, q10_1, d1, hlt, hl, f24_0, f24_1, f24_6, f24_7] at f26_7)
    have f26_8 := congrFun e26 8
    (simp only [go_sem, r10_6, q10_0, q10_1, d1, hlt, hl, f24_0, f24_1, f24_6, f24_7] at f26_8)
    clear e26
    refine wpE_loop (fun mm ρ df g => ∃ k : Nat, ∃ b : Bool, mm = l.length - k ∧ df = [] ∧ g = hL [] ∧ ρ 7 = .bool b ∧ ρ 8 = .int .i64 (k : Nat) ∧ ρ 0 = ρ26 0 ∧ ρ 1 = ρ26 1 ∧ ρ 6 = ρ26 6 ∧ k ≤ l.length ∧ b = (l.take k).any (holdsB m)) (l.length) (by omega) ⟨0, false, rfl, rfl, rfl, (by first | rfl | (simp only [go_sem, r10_6, q10_0, q10_1, d1, hlt, hl, f26_0, f26_1, f26_6, f26_7, f26_8]; done) | (simp only [go_sem, r10_6, q10_0, q10_1, d1, hlt, hl, f26_0, f26_1, f26_6, f26_7, f26_8]; rfl)), (by first | rfl | (simp only [go_sem, r10_6, q10_0, q10_1, d1, hlt, hl, f26_0, f26_1, f26_6, f26_7, f26_8]; done) | (simp only [go_sem, r10_6, q10_0, q10_1, d1, hlt, hl, f26_0, f26_1, f26_6, f26_7, f26_8]; rfl)), rfl, rfl, rfl, (by omega), (by simp)⟩ ?_
    rintro m27 K27 hK27 ρ df g ⟨k, b, hm27, rfl, rfl, r27_7, r27_8, q27_0, q27_1, q27_6, hk, hany⟩
    replace q27_0 := q27_0.trans f26_0
    replace q27_1 := q27_1.trans f26_1
    replace q27_6 := q27_6.trans f26_6
    refine wpE_seq fun K28 hK28 => ?_
    refine wpE_seq fun K29 hK29 => ?_
    -- region 6
    refine wpE_gen fun ρ30 e30 => ?_
    have f30_0 := congrFun e30 0
    (simp only [go_sem, r10_6, q10_0, q10_1, d1, hlt, hl, r27_7, r27_8, q27_0, q27_1, q27_6] at f30_0)
    have f30_1 := congrFun e30 1
    (simp only [go_sem, r10_6, q10_0, q10_1, d1, hlt, hl, r27_7, r27_8, q27_0, q27_1, q27_6] at f30_1)
    have f30_6 := congrFun e30 6
    (simp only [go_sem, r10_6, q10_0, q10_1, d1, hlt, hl, r27_7, r27_8, q27_0, q27_1, q27_6] at f30_6)
    have f30_7 := congrFun e30 7
    (simp only [go_sem, r10_6, q10_0, q10_1, d1, hlt, hl, r27_7, r27_8, q27_0, q27_1, q27_6] at f30_7)
    have f30_8 := congrFun e30 8
    (simp only [go_sem, r10_6, q10_0, q10_1, d1, hlt, hl, r27_7, r27_8, q27_0, q27_1, q27_6] at f30_8)
    clear e30
    refine wpE_region ?_
    refine wpOs_step rfl fun K31 hK31 => ?_
    (try simp only [go_sem, r10_6, q10_0, q10_1, d1, hlt, hl, r27_7, r27_8, q27_0, q27_1, q27_6, f30_0, f30_1, f30_6, f30_7, f30_8])
    refine hK31 _ _ _ ?_; clear hK31 K31
    refine wpOs_step rfl fun K32 hK32 => ?_
    (try simp only [go_sem, r10_6, q10_0, q10_1, d1, hlt, hl, r27_7, r27_8, q27_0, q27_1, q27_6, f30_0, f30_1, f30_6, f30_7, f30_8])
    refine hK32 _ _ _ ?_; clear hK32 K32
    refine wpOs_step rfl fun K33 hK33 => ?_
    (try simp only [go_sem, r10_6, q10_0, q10_1, d1, hlt, hl, r27_7, r27_8, q27_0, q27_1, q27_6, f30_0, f30_1, f30_6, f30_7, f30_8])
    refine hK33 _ _ _ ?_; clear hK33 K33
    refine wpOs_step rfl fun K34 hK34 => ?_
    (try simp only [go_sem, r10_6, q10_0, q10_1, d1, hlt, hl, r27_7, r27_8, q27_0, q27_1, q27_6, f30_0, f30_1, f30_6, f30_7, f30_8])
    refine hK34 _ _ _ ?_; clear hK34 K34
    refine wpOs_step rfl fun K35 hK35 => ?_
    (try simp only [go_sem, r10_6, q10_0, q10_1, d1, hlt, hl, r27_7, r27_8, q27_0, q27_1, q27_6, f30_0, f30_1, f30_6, f30_7, f30_8])
    refine hK35 _ _ _ ?_; clear hK35 K35
    refine wpOs_step rfl fun K36 hK36 => ?_
    (try simp only [go_sem, r10_6, q10_0, q10_1, d1, hlt, hl, r27_7, r27_8, q27_0, q27_1, q27_6, f30_0, f30_1, f30_6, f30_7, f30_8])
    refine hK36 _ _ _ ?_; clear hK36 K36
    refine wpOs_step rfl fun K37 hK37 => ?_
    (try simp only [go_sem, r10_6, q10_0, q10_1, d1, hlt, hl, r27_7, r27_8, q27_0, q27_1, q27_6, f30_0, f30_1, f30_6, f30_7, f30_8])
    refine hK37 _ _ _ ?_; clear hK37 K37
    refine wpOs_end ?_
    refine hK29 _ _ _ ?_
    (try clear hK29 K29)
    refine wpE_cond' ?_
    (try simp only [go_sem, r10_6, q10_0, q10_1, d1, hlt, hl, r27_7, r27_8, q27_0, q27_1, q27_6, f30_0, f30_1, f30_6, f30_7, f30_8])
    refine branch_by (fun d2 => ?_) (fun d2 => ?_)
    · skip
      have hkt : k < l.length := by simpa using d2
      obtain ⟨x, hx⟩ := has_at hkt
      have hxo : litOk n x := hL0 l hmem x (List.mem_iff_getElem?.2 ⟨k, hx⟩)
      refine wpE_skip ?_
      (try simp only [go_sem])
      refine hK28 _ _ _ ?_
      (try clear hK28 K28)
      refine wpE_seq fun K38 hK38 => ?_
      refine wpE_block ?_
      -- region 8
      refine wpE_gen fun ρ39 e39 => ?_
      have f39_0 := congrFun e39 0
      (simp only [go_sem, r10_6, q10_0, q10_1, d1, hlt, hl, r27_7, r27_8, q27_0, q27_1, q27_6, f30_0, f30_1, f30_6, f30_7, f30_8, d2, hkt, hx] at f39_0)
      have f39_1 := congrFun e39 1
      (simp only [go_sem, r10_6, q10_0, q10_1, d1, hlt, hl, r27_7, r27_8, q27_0, q27_1, q27_6, f30_0, f30_1, f30_6, f30_7, f30_8, d2, hkt, hx] at f39_1)
      have f39_6 := congrFun e39 6
      (simp only [go_sem, r10_6, q10_0, q10_1, d1, hlt, hl, r27_7, r27_8, q27_0, q27_1, q27_6, f30_0, f30_1, f30_6, f30_7, f30_8, d2, hkt, hx] at f39_6)
      have f39_7 := congrFun e39 7
      (simp only [go_sem, r10_6, q10_0, q10_1, d1, hlt, hl, r27_7, r27_8, q27_0, q27_1, q27_6, f30_0, f30_1, f30_6, f30_7, f30_8, d2, hkt, hx] at f39_7)
      have f39_8 := congrFun e39 8
      (simp only [go_sem, r10_6, q10_0, q10_1, d1, hlt, hl, r27_7, r27_8, q27_0, q27_1, q27_6, f30_0, f30_1, f30_6, f30_7, f30_8, d2, hkt, hx] at f39_8)
      clear e39
      refine wpE_region ?_
      refine wpOs_step rfl fun K40 hK40 => ?_
      (try simp only [go_sem, r10_6, q10_0, q10_1, d1, hlt, hl, r27_7, r27_8, q27_0, q27_1, q27_6, d2, hkt, hx, f39_0, f39_1, f39_6, f39_7, f39_8])
      refine hK40 _ _ _ ?_; clear hK40 K40
      refine wpOs_step rfl fun K41 hK41 => ?_
      (try simp only [go_sem, r10_6, q10_0, q10_1, d1, hlt, hl, r27_7, r27_8, q27_0, q27_1, q27_6, d2, hkt, hx, f39_0, f39_1, f39_6, f39_7, f39_8])
      refine hK41 _ _ _ ?_; clear hK41 K41
      refine wpOs_guard rfl rfl fun K42 hK42 => ?_
      (try simp only [go_sem, r10_6, q10_0, q10_1, d1, hlt, hl, r27_7, r27_8, q27_0, q27_1, q27_6, d2, hkt, hx, f39_0, f39_1, f39_6, f39_7, f39_8])
      refine branch_by (fun d3 => ?_) (fun d3 => ?_)
      · skip
        (try simp only [go_sem, r10_6, q10_0, q10_1, d1, hlt, hl, r27_7, r27_8, q27_0, q27_1, q27_6, d2, hkt, hx, f39_0, f39_1, f39_6, f39_7, f39_8, d3])
        refine hK42 _ _ _ ?_; clear hK42 K42
        refine wpOs_guard rfl rfl fun K43 hK43 => ?_
        (try simp only [go_sem, r10_6, q10_0, q10_1, d1, hlt, hl, r27_7, r27_8, q27_0, q27_1, q27_6, d2, hkt, hx, f39_0, f39_1, f39_6, f39_7, f39_8, d3])
        refine hK43 _ _ _ ?_; clear hK43 K43
        refine wpOs_guard rfl rfl fun K44 hK44 => ?_
        (try simp only [go_sem, r10_6, q10_0, q10_1, d1, hlt, hl, r27_7, r27_8, q27_0, q27_1, q27_6, d2, hkt, hx, f39_0, f39_1, f39_6, f39_7, f39_8, d3])
        refine hK44 _ _ _ ?_; clear hK44 K44
        refine wpOs_guard rfl rfl fun K45 hK45 => ?_
        (try simp only [go_sem, r10_6, q10_0, q10_1, d1, hlt, hl, r27_7, r27_8, q27_0, q27_1, q27_6, d2, hkt, hx, f39_0, f39_1, f39_6, f39_7, f39_8, d3])
        refine hK45 _ _ _ ?_; clear hK45 K45
        refine wpOs_guard rfl rfl fun K46 hK46 => ?_
        (try simp only [go_sem, r10_6, q10_0, q10_1, d1, hlt, hl, r27_7, r27_8, q27_0, q27_1, q27_6, d2, hkt, hx, f39_0, f39_1, f39_6, f39_7, f39_8, d3])
        refine hK46 _ _ _ ?_; clear hK46 K46
        refine wpOs_guard rfl rfl fun K47 hK47 => ?_
        (try simp only [go_sem, r10_6, q10_0, q10_1, d1, hlt, hl, r27_7, r27_8, q27_0, q27_1, q27_6, d2, hkt, hx, f39_0, f39_1, f39_6, f39_7, f39_8, d3])
        refine hK47 _ _ _ ?_; clear hK47 K47
        refine wpOs_guard rfl rfl fun K48 hK48 => ?_
        (try simp only [go_sem, r10_6, q10_0, q10_1, d1, hlt, hl, r27_7, r27_8, q27_0, q27_1, q27_6, d2, hkt, hx, f39_0, f39_1, f39_6, f39_7, f39_8, d3])
        refine hK48 _ _ _ ?_; clear hK48 K48
        refine wpOs_guard rfl rfl fun K49 hK49 => ?_
        (try simp only [go_sem, r10_6, q10_0, q10_1, d1, hlt, hl, r27_7, r27_8, q27_0, q27_1, q27_6, d2, hkt, hx, f39_0, f39_1, f39_6, f39_7, f39_8, d3])
        refine hK49 _ _ _ ?_; clear hK49 K49
        refine wpOs_guard rfl rfl fun K50 hK50 => ?_
        (try simp only [go_sem, r10_6, q10_0, q10_1, d1, hlt, hl, r27_7, r27_8, q27_0, q27_1, q27_6, d2, hkt, hx, f39_0, f39_1, f39_6, f39_7, f39_8, d3])
        refine hK50 _ _ _ ?_; clear hK50 K50
        refine wpOs_step rfl fun K51 hK51 => ?_
        (try simp only [go_sem, r10_6, q10_0, q10_1, d1, hlt, hl, r27_7, r27_8, q27_0, q27_1, q27_6, d2, hkt, hx, f39_0, f39_1, f39_6, f39_7, f39_8, d3])
        refine hK51 _ _ _ ?_; clear hK51 K51
        refine wpOs_step rfl fun K52 hK52 => ?_
        (try simp only [go_sem, r10_6, q10_0, q10_1, d1, hlt, hl, r27_7, r27_8, q27_0, q27_1, q27_6, d2, hkt, hx, f39_0, f39_1, f39_6, f39_7, f39_8, d3])
        refine hK52 _ _ _ ?_; clear hK52 K52
        refine wpOs_end ?_
        refine hK38 _ _ _ ?_
        (try clear hK38 K38)
        -- region 7
        refine wpE_gen fun ρ53 e53 => ?_
        have f53_0 := congrFun e53 0
        (simp only [go_sem, r10_6, q10_0, q10_1, d1, hlt, hl, r27_7, r27_8, q27_0, q27_1, q27_6, d2, hkt, hx, f39_0, f39_1, f39_6, f39_7, f39_8, d3] at f53_0)
        have f53_1 := congrFun e53 1
        (simp only [go_sem, r10_6, q10_0, q10_1, d1, hlt, hl, r27_7, r27_8, q27_0, q27_1, q27_6, d2, hkt, hx, f39_0, f39_1, f39_6, f39_7, f39_8, d3] at f53_1)
        have f53_6 := congrFun e53 6
        (simp only [go_sem, r10_6, q10_0, q10_1, d1, hlt, hl, r27_7, r27_8, q27_0, q27_1, q27_6, d2, hkt, hx, f39_0, f39_1, f39_6, f39_7, f39_8, d3] at f53_6)
        have f53_7 := congrFun e53 7
        (simp only [go_sem, r10_6, q10_0, q10_1, d1, hlt, hl, r27_7, r27_8, q27_0, q27_1, q27_6, d2, hkt, hx, f39_0, f39_1, f39_6, f39_7, f39_8, d3] at f53_7)
        have f53_8 := congrFun e53 8
        (simp only [go_sem, r10_6, q10_0, q10_1, d1, hlt, hl, r27_7, r27_8, q27_0, q27_1, q27_6, d2, hkt, hx, f39_0, f39_1, f39_6, f39_7, f39_8, d3] at f53_8)
        clear e53
        refine wpE_region ?_
        refine wpOs_step rfl fun K54 hK54 => ?_
        (try simp only [go_sem, r10_6, q10_0, q10_1, d1, hlt, hl, r27_7, r27_8, q27_0, q27_1, q27_6, d2, hkt, hx, d3, f53_0, f53_1, f53_6, f53_7, f53_8])
        refine hK54 _ _ _ ?_; clear hK54 K54
        refine wpOs_step rfl fun K55 hK55 => ?_
        (try simp only [go_sem, r10_6, q10_0, q10_1, d1, hlt, hl, r27_7, r27_8, q27_0, q27_1, q27_6, d2, hkt, hx, d3, f53_0, f53_1, f53_6, f53_7, f53_8])
        refine hK55 _ _ _ ?_; clear hK55 K55
        refine wpOs_step rfl fun K56 hK56 => ?_
        (try simp only [go_sem, r10_6, q10_0, q10_1, d1, hlt, hl, r27_7, r27_8, q27_0, q27_1, q27_6, d2, hkt, hx, d3, f53_0, f53_1, f53_6, f53_7, f53_8])
        refine hK56 _ _ _ ?_; clear hK56 K56
        refine wpOs_end ?_
        refine hK27 _ _ _ _ (by omega) ⟨k + 1, _, rfl, rfl, rfl, (by first | rfl | (simp only [go_sem, r10_6, q10_0, q10_1, d1, hlt, hl, r27_7, r27_8, q27_0, q27_1, q27_6, d2, hkt, hx, d3, f53_0, f53_1, f53_6, f53_7, f53_8, f26_0, f26_1, f26_6]; done) | (simp only [go_sem, r10_6, q10_0, q10_1, d1, hlt, hl, r27_7, r27_8, q27_0, q27_1, q27_6, d2, hkt, hx, d3, f53_0, f53_1, f53_6, f53_7, f53_8, f26_0, f26_1, f26_6]; rfl) | (simp only [go_sem, r10_6, q10_0, q10_1, d1, hlt, hl, r27_7, r27_8, q27_0, q27_1, q27_6, d2, hkt, hx, d3, f53_0, f53_1, f53_6, f53_7, f53_8, f26_0, f26_1, f26_6]; rw [wrap64 (by omega) (by omega)]; first | done | rfl | (congr 1; omega))), (by first | rfl | (simp only [go_sem, r10_6, q10_0, q10_1, d1, hlt, hl, r27_7, r27_8, q27_0, q27_1, q27_6, d2, hkt, hx, d3, f53_0, f53_1, f53_6, f53_7, f53_8, f26_0, f26_1, f26_6]; done) | (simp only [go_sem, r10_6, q10_0, q10_1, d1, hlt, hl, r27_7, r27_8, q27_0, q27_1, q27_6, d2, hkt, hx, d3, f53_0, f53_1, f53_6, f53_7, f53_8, f26_0, f26_1, f26_6]; rfl) | (simp only [go_sem, r10_6, q10_0, q10_1, d1, hlt, hl, r27_7, r27_8, q27_0, q27_1, q27_6, d2, hkt, hx, d3, f53_0, f53_1, f53_6, f53_7, f53_8, f26_0, f26_1, f26_6]; rw [wrap64 (by omega) (by omega)]; first | done | rfl | (congr 1; omega))), (by first | rfl | (simp only [go_sem, r10_6, q10_0, q10_1, d1, hlt, hl, r27_7, r27_8, q27_0, q27_1, q27_6, d2, hkt, hx, d3, f53_0, f53_1, f53_6, f53_7, f53_8, f26_0, f26_1, f26_6]; done) | (simp only [go_sem, r10_6, q10_0, q10_1, d1, hlt, hl, r27_7, r27_8, q27_0, q27_1, q27_6, d2, hkt, hx, d3, f53_0, f53_1, f53_6, f53_7, f53_8, f26_0, f26_1, f26_6]; rfl) | (simp only [go_sem, r10_6, q10_0, q10_1, d1, hlt, hl, r27_7, r27_8, q27_0, q27_1, q27_6, d2, hkt, hx, d3, f53_0, f53_1, f53_6, f53_7, f53_8, f26_0, f26_1, f26_6]; rw [wrap64 (by omega) (by omega)]; first | done | rfl | (congr 1; omega))), (by first | rfl | (simp only [go_sem, r10_6, q10_0, q10_1, d1, hlt, hl, r27_7, r27_8, q27_0, q27_1, q27_6, d2, hkt, hx, d3, f53_0, f53_1, f53_6, f53_7, f53_8, f26_0, f26_1, f26_6]; done) | (simp only [go_sem, r10_6, q10_0, q10_1, d1, hlt, hl, r27_7, r27_8, q27_0, q27_1, q27_6, d2, hkt, hx, d3, f53_0, f53_1, f53_6, f53_7, f53_8, f26_0, f26_1, f26_6]; rfl) | (simp only [go_sem, r10_6, q10_0, q10_1, d1, hlt, hl, r27_7, r27_8, q27_0, q27_1, q27_6, d2, hkt, hx, d3, f53_0, f53_1, f53_6, f53_7, f53_8, f26_0, f26_1, f26_6]; rw [wrap64 (by omega) (by omega)]; first | done | rfl | (congr 1; omega))), (by first | rfl | (simp only [go_sem, r10_6, q10_0, q10_1, d1, hlt, hl, r27_7, r27_8, q27_0, q27_1, q27_6, d2, hkt, hx, d3, f53_0, f53_1, f53_6, f53_7, f53_8, f26_0, f26_1, f26_6]; done) | (simp only [go_sem, r10_6, q10_0, q10_1, d1, hlt, hl, r27_7, r27_8, q27_0, q27_1, q27_6, d2, hkt, hx, d3, f53_0, f53_1, f53_6, f53_7, f53_8, f26_0, f26_1, f26_6]; rfl) | (simp only [go_sem, r10_6, q10_0, q10_1, d1, hlt, hl, r27_7, r27_8, q27_0, q27_1, q27_6, d2, hkt, hx, d3, f53_0, f53_1, f53_6, f53_7, f53_8, f26_0, f26_1, f26_6]; rw [wrap64 (by omega) (by omega)]; first | done | rfl | (congr 1; omega))), (by omega), (by rw [take_any hx, ← hany]; simp_all)⟩
      · skip
        (try simp only [go_sem, r10_6, q10_0, q10_1, d1, hlt, hl, r27_7, r27_8, q27_0, q27_1, q27_6, d2, hkt, hx, f39_0, f39_1, f39_6, f39_7, f39_8, d3])
        refine hK42 _ _ _ ?_; clear hK42 K42
        refine wpOs_guard rfl rfl fun K57 hK57 => ?_
        (try simp only [go_sem, r10_6, q10_0, q10_1, d1, hlt, hl, r27_7, r27_8, q27_0, q27_1, q27_6, d2, hkt, hx, f39_0, f39_1, f39_6, f39_7, f39_8, d3])
        refine hK57 _ _ _ ?_; clear hK57 K57
        refine wpOs_guard rfl rfl fun K58 hK58 => ?_
        (try simp only [go_sem, r10_6, q10_0, q10_1, d1, hlt, hl, r27_7, r27_8, q27_0, q27_1, q27_6, d2, hkt, hx, f39_0, f39_1, f39_6, f39_7, f39_8, d3])
        refine hK58 _ _ _ ?_; clear hK58 K58
        refine wpOs_guard rfl rfl fun K59 hK59 => ?_
        (try simp only [go_sem, r10_6, q10_0, q10_1, d1, hlt, hl, r27_7, r27_8, q27_0, q27_1, q27_6, d2, hkt, hx, f39_0, f39_1, f39_6, f39_7, f39_8, d3])
        refine hK59 _ _ _ ?_; clear hK59 K59
        refine wpOs_guard rfl rfl fun K60 hK60 => ?_
        (try simp only [go_sem, r10_6, q10_0, q10_1, d1, hlt, hl, r27_7, r27_8, q27_0, q27_1, q27_6, d2, hkt, hx, f39_0, f39_1, f39_6, f39_7, f39_8, d3])
        refine hK60 _ _ _ ?_; clear hK60 K60
        refine wpOs_guard rfl rfl fun K61 hK61 => ?_
        (try simp only [go_sem, r10_6, q10_0, q10_1, d1, hlt, hl, r27_7, r27_8, q27_0, q27_1, q27_6, d2, hkt, hx, f39_0, f39_1, f39_6, f39_7, f39_8, d3])
        refine hK61 _ _ _ ?_; clear hK61 K61
        refine wpOs_guard rfl rfl fun K62 hK62 => ?_
        (try simp only [go_sem, r10_6, q10_0, q10_1, d1, hlt, hl, r27_7, r27_8, q27_0, q27_1, q27_6, d2, hkt, hx, f39_0, f39_1, f39_6, f39_7, f39_8, d3])
        refine hK62 _ _ _ ?_; clear hK62 K62
        refine wpOs_guard rfl rfl fun K63 hK63 => ?_
        (try simp only [go_sem, r10_6, q10_0, q10_1, d1, hlt, hl, r27_7, r27_8, q27_0, q27_1, q27_6, d2, hkt, hx, f39_0, f39_1, f39_6, f39_7, f39_8, d3])
        refine hK63 _ _ _ ?_; clear hK63 K63
        refine wpOs_guard rfl rfl fun K64 hK64 => ?_
        (try simp only [go_sem, r10_6, q10_0, q10_1, d1, hlt, hl, r27_7, r27_8, q27_0, q27_1, q27_6, d2, hkt, hx, f39_0, f39_1, f39_6, f39_7, f39_8, d3])
        refine call_fun (isTrue_fun m n hm hn x hxo) rfl rfl (fun _ => rfl) ?_
        (try simp only [go_sem, r10_6, q10_0, q10_1, d1, hlt, hl, r27_7, r27_8, q27_0, q27_1, q27_6, d2, hkt, hx, f39_0, f39_1, f39_6, f39_7, f39_8, d3])
        refine hK64 _ _ _ ?_; clear hK64 K64
        refine wpOs_step rfl fun K65 hK65 => ?_
        (try simp only [go_sem, r10_6, q10_0, q10_1, d1, hlt, hl, r27_7, r27_8, q27_0, q27_1, q27_6, d2, hkt, hx, f39_0, f39_1, f39_6, f39_7, f39_8, d3])
        refine hK65 _ _ _ ?_; clear hK65 K65
        refine wpOs_step rfl fun K66 hK66 => ?_
        (try simp only [go_sem, r10_6, q10_0, q10_1, d1, hlt, hl, r27_7, r27_8, q27_0, q27_1, q27_6, d2, hkt, hx, f39_0, f39_1, f39_6, f39_7, f39_8, d3])
        refine hK66 _ _ _ ?_; clear hK66 K66
        refine wpOs_end ?_
        refine hK38 _ _ _ ?_
        (try clear hK38 K38)
        -- region 7
        refine wpE_gen fun ρ67 e67 => ?_
        have f67_0 := congrFun e67 0
        (simp only [go_sem, r10_6, q10_0, q10_1, d1, hlt, hl, r27_7, r27_8, q27_0, q27_1, q27_6, d2, hkt, hx, f39_0, f39_1, f39_6, f39_7, f39_8, d3] at f67_0)
        have f67_1 := congrFun e67 1
        (simp only [go_sem, r10_6, q10_0, q10_1, d1, hlt, hl, r27_7, r27_8, q27_0, q27_1, q27_6, d2, hkt, hx, f39_0, f39_1, f39_6, f39_7, f39_8, d3] at f67_1)
        have f67_6 := congrFun e67 6
        (simp only [go_sem, r10_6, q10_0, q10_1, d1, hlt, hl, r27_7, r27_8, q27_0, q27_1, q27_6, d2, hkt, hx, f39_0, f39_1, f39_6, f39_7, f39_8, d3] at f67_6)
        have f67_7 := congrFun e67 7
        (simp only [go_sem, r10_6, q10_0, q10_1, d1, hlt, hl, r27_7, r27_8, q27_0, q27_1, q27_6, d2, hkt, hx, f39_0, f39_1, f39_6, f39_7, f39_8, d3] at f67_7)
        have f67_8 := congrFun e67 8
        (simp only [go_sem, r10_6, q10_0, q10_1, d1, hlt, hl, r27_7, r27_8, q27_0, q27_1, q27_6, d2, hkt, hx, f39_0, f39_1, f39_6, f39_7, f39_8, d3] at f67_8)
        clear e67
        refine wpE_region ?_
        refine wpOs_step rfl fun K68 hK68 => ?_
        (try simp only [go_sem, r10_6, q10_0, q10_1, d1, hlt, hl, r27_7, r27_8, q27_0, q27_1, q27_6, d2, hkt, hx, d3, f67_0, f67_1, f67_6, f67_7, f67_8])
        refine hK68 _ _ _ ?_; clear hK68 K68
        refine wpOs_step rfl fun K69 hK69 => ?_
        (try simp only [go_sem, r10_6, q10_0, q10_1, d1, hlt, hl, r27_7, r27_8, q27_0, q27_1, q27_6, d2, hkt, hx, d3, f67_0, f67_1, f67_6, f67_7, f67_8])
        refine hK69 _ _ _ ?_; clear hK69 K69
        refine wpOs_step rfl fun K70 hK70 => ?_
        (try simp only [go_sem, r10_6, q10_0, q10_1, d1, hlt, hl, r27_7, r27_8, q27_0, q27_1, q27_6, d2, hkt, hx, d3, f67_0, f67_1, f67_6, f67_7, f67_8])
        refine hK70 _ _ _ ?_; clear hK70 K70
        refine wpOs_end ?_
        refine hK27 _ _ _ _ (by omega) ⟨k + 1, _, rfl, rfl, rfl, (by first | rfl | (simp only [go_sem, r10_6, q10_0, q10_1, d1, hlt, hl, r27_7, r27_8, q27_0, q27_1, q27_6, d2, hkt, hx, d3, f67_0, f67_1, f67_6, f67_7, f67_8, f26_0, f26_1, f26_6]; done) | (simp only [go_sem, r10_6, q10_0, q10_1, d1, hlt, hl, r27_7, r27_8, q27_0, q27_1, q27_6, d2, hkt, hx, d3, f67_0, f67_1, f67_6, f67_7, f67_8, f26_0, f26_1, f26_6]; rfl) | (simp only [go_sem, r10_6, q10_0, q10_1, d1, hlt, hl, r27_7, r27_8, q27_0, q27_1, q27_6, d2, hkt, hx, d3, f67_0, f67_1, f67_6, f67_7, f67_8, f26_0, f26_1, f26_6]; rw [wrap64 (by omega) (by omega)]; first | done | rfl | (congr 1; omega))), (by first | rfl | (simp only [go_sem, r10_6, q10_0, q10_1, d1, hlt, hl, r27_7, r27_8, q27_0, q27_1, q27_6, d2, hkt, hx, d3, f67_0, f67_1, f67_6, f67_7, f67_8, f26_0, f26_1, f26_6]; done) | (simp only [go_sem, r10_6, q10_0, q10_1, d1, hlt, hl, r27_7, r27_8, q27_0, q27_1, q27_6, d2, hkt, hx, d3, f67_0, f67_1, f67_6, f67_7, f67_8, f26_0, f26_1, f26_6]; rfl) | (simp only [go_sem, r10_6, q10_0, q10_1, d1, hlt, hl, r27_7, r27_8, q27_0, q27_1, q27_6, d2, hkt, hx, d3, f67_0, f67_1, f67_6, f67_7, f67_8, f26_0, f26_1, f26_6]; rw [wrap64 (by omega) (by omega)]; first | done | rfl | (congr 1; omega))), (by first | rfl | (simp only [go_sem, r10_6, q10_0, q10_1, d1, hlt, hl, r27_7, r27_8, q27_0, q27_1, q27_6, d2, hkt, hx, d3, f67_0, f67_1, f67_6, f67_7, f67_8, f26_0, f26_1, f26_6]; done) | (simp only [go_sem, r10_6, q10_0, q10_1, d1, hlt, hl, r27_7, r27_8, q27_0, q27_1, q27_6, d2, hkt, hx, d3, f67_0, f67_1, f67_6, f67_7, f67_8, f26_0, f26_1, f26_6]; rfl) | (simp only [go_sem, r10_6, q10_0, q10_1, d1, hlt, hl, r27_7, r27_8, q27_0, q27_1, q27_6, d2, hkt, hx, d3, f67_0, f67_1, f67_6, f67_7, f67_8, f26_0, f26_1, f26_6]; rw [wrap64 (by omega) (by omega)]; first | done | rfl | (congr 1; omega))), (by first | rfl | (simp only [go_sem, r10_6, q10_0, q10_1, d1, hlt, hl, r27_7, r27_8, q27_0, q27_1, q27_6, d2, hkt, hx, d3, f67_0, f67_1, f67_6, f67_7, f67_8, f26_0, f26_1, f26_6]; done) | (simp only [go_sem, r10_6, q10_0, q10_1, d1, hlt, hl, r27_7, r27_8, q27_0, q27_1, q27_6, d2, hkt, hx, d3, f67_0, f67_1, f67_6, f67_7, f67_8, f26_0, f26_1, f26_6]; rfl) | (simp only [go_sem, r10_6, q10_0, q10_1, d1, hlt, hl, r27_7, r27_8, q27_0, q27_1, q27_6, d2, hkt, hx, d3, f67_0, f67_1, f67_6, f67_7, f67_8, f26_0, f26_1, f26_6]; rw [wrap64 (by omega) (by omega)]; first | done | rfl | (congr 1; omega))), (by first | rfl | (simp only [go_sem, r10_6, q10_0, q10_1, d1, hlt, hl, r27_7, r27_8, q27_0, q27_1, q27_6, d2, hkt, hx, d3, f67_0, f67_1, f67_6, f67_7, f67_8, f26_0, f26_1, f26_6]; done) | (simp only [go_sem, r10_6, q10_0, q10_1, d1, hlt, hl, r27_7, r27_8, q27_0, q27_1, q27_6, d2, hkt, hx, d3, f67_0, f67_1, f67_6, f67_7, f67_8, f26_0, f26_1, f26_6]; rfl) | (simp only [go_sem, r10_6, q10_0, q10_1, d1, hlt, hl, r27_7, r27_8, q27_0, q27_1, q27_6, d2, hkt, hx, d3, f67_0, f67_1, f67_6, f67_7, f67_8, f26_0, f26_1, f26_6]; rw [wrap64 (by omega) (by omega)]; first | done | rfl | (congr 1; omega))), (by omega), (by rw [take_any hx, ← hany]; simp_all)⟩
    · skip
      have hkge : k = l.length := by simp at d2; omega
      refine wpE_exit ?_
      (try simp only [go_sem])
      (try simp only [go_sem])
      refine hK22 _ _ _ ?_
      (try clear hK22 K22)
      refine wpE_seq fun K71 hK71 => ?_
      -- region 9
      refine wpE_gen fun ρ72 e72 => ?_
      have f72_0 := congrFun e72 0
      (simp only [go_sem, r10_6, q10_0, q10_1, d1, hlt, hl, r27_7, r27_8, q27_0, q27_1, q27_6, f30_0, f30_1, f30_6, f30_7, f30_8, d2] at f72_0)
      have f72_1 := congrFun e72 1
      (simp only [go_sem, r10_6, q10_0, q10_1, d1, hlt, hl, r27_7, r27_8, q27_0, q27_1, q27_6, f30_0, f30_1, f30_6, f30_7, f30_8, d2] at f72_1)
      have f72_6 := congrFun e72 6
      (simp only [go_sem, r10_6, q10_0, q10_1, d1, hlt, hl, r27_7, r27_8, q27_0, q27_1, q27_6, f30_0, f30_1, f30_6, f30_7, f30_8, d2] at f72_6)
      have f72_7 := congrFun e72 7
      (simp only [go_sem, r10_6, q10_0, q10_1, d1, hlt, hl, r27_7, r27_8, q27_0, q27_1, q27_6, f30_0, f30_1, f30_6, f30_7, f30_8, d2] at f72_7)
      clear e72
      refine wpE_region ?_
      refine wpOs_step rfl fun K73 hK73 => ?_
      (try simp only [go_sem, r10_6, q10_0, q10_1, d1, hlt, hl, r27_7, r27_8, q27_0, q27_1, q27_6, d2, f72_0, f72_1, f72_6, f72_7])
      refine hK73 _ _ _ ?_; clear hK73 K73
      refine wpOs_step rfl fun K74 hK74 => ?_
      (try simp only [go_sem, r10_6, q10_0, q10_1, d1, hlt, hl, r27_7, r27_8, q27_0, q27_1, q27_6, d2, f72_0, f72_1, f72_6, f72_7])
      refine hK74 _ _ _ ?_; clear hK74 K74
      refine wpOs_end ?_
      refine hK71 _ _ _ ?_
      (try clear hK71 K71)
      refine wpE_cond' ?_
      (try simp only [go_sem, r10_6, q10_0, q10_1, d1, hlt, hl, r27_7, r27_8, q27_0, q27_1, q27_6, d2, f72_0, f72_1, f72_6, f72_7])
      refine branch_by (fun d4 => ?_) (fun d4 => ?_)
      · skip
        refine wpE_seq fun K75 hK75 => ?_
        -- region 10
        refine wpE_gen fun ρ76 e76 => ?_
        have f76_6 := congrFun e76 6
        (simp only [go_sem, r10_6, q10_0, q10_1, d1, hlt, hl, r27_7, r27_8, q27_0, q27_1, q27_6, d2, f72_0, f72_1, f72_6, f72_7, d4] at f76_6)
        clear e76
        refine wpE_region ?_
        refine wpOs_step rfl fun K77 hK77 => ?_
        (try simp only [go_sem, r10_6, q10_0, q10_1, d1, hlt, hl, r27_7, r27_8, q27_0, q27_1, q27_6, d2, d4, f76_6])
        refine hK77 _ _ _ ?_; clear hK77 K77
        refine wpOs_step rfl fun K78 hK78 => ?_
        (try simp only [go_sem, r10_6, q10_0, q10_1, d1, hlt, hl, r27_7, r27_8, q27_0, q27_1, q27_6, d2, d4, f76_6])
        refine hK78 _ _ _ ?_; clear hK78 K78
        refine wpOs_step rfl fun K79 hK79 => ?_
        (try simp only [go_sem, r10_6, q10_0, q10_1, d1, hlt, hl, r27_7, r27_8, q27_0, q27_1, q27_6, d2, d4, f76_6])
        refine hK79 _ _ _ ?_; clear hK79 K79
        refine wpOs_end ?_
        refine hK75 _ _ _ ?_
        (try clear hK75 K75)
        refine wpE_ret ?_
        (try simp only [go_sem, r10_6, q10_0, q10_1, d1, hlt, hl, r27_7, r27_8, q27_0, q27_1, q27_6, d2, d4, f76_6])
        refine fin_ret2 rfl ?_
        (try simp only [go_sem, r10_6, q10_0, q10_1, d1, hlt, hl, r27_7, r27_8, q27_0, q27_1, q27_6, d2, d4, f76_6])
        -- leaf 0
        refine told_flat ?_ (by simp [FV, FVs])
        rw [hc, satF_at hl, if_neg]
        rw [hkge, List.take_length] at hany; rw [← hany]; simpa using d4
      · skip
        refine wpE_skip ?_
        (try simp only [go_sem])
        refine hK18 _ _ _ ?_
        (try clear hK18 K18)
        -- region 3
        refine wpE_gen fun ρ80 e80 => ?_
        have f80_0 := congrFun e80 0
        (simp only [go_sem, r10_6, q10_0, q10_1, d1, hlt, hl, r27_7, r27_8, q27_0, q27_1, q27_6, d2, f72_0, f72_1, f72_6, f72_7, d4] at f80_0)
        have f80_1 := congrFun e80 1
        (simp only [go_sem, r10_6, q10_0, q10_1, d1, hlt, hl, r27_7, r27_8, q27_0, q27_1, q27_6, d2, f72_0, f72_1, f72_6, f72_7, d4] at f80_1)
        have f80_6 := congrFun e80 6
        (simp only [go_sem, r10_6, q10_0, q10_1, d1, hlt, hl, r27_7, r27_8, q27_0, q27_1, q27_6, d2, f72_0, f72_1, f72_6, f72_7, d4] at f80_6)
        clear e80
        refine wpE_region ?_
        refine wpOs_step rfl fun K81 hK81 => ?_
        (try simp only [go_sem, r10_6, q10_0, q10_1, d1, hlt, hl, r27_7, r27_8, q27_0, q27_1, q27_6, d2, d4, f80_0, f80_1, f80_6])
        refine hK81 _ _ _ ?_; clear hK81 K81
        refine wpOs_step rfl fun K82 hK82 => ?_
        (try simp only [go_sem, r10_6, q10_0, q10_1, d1, hlt, hl, r27_7, r27_8, q27_0, q27_1, q27_6, d2, d4, f80_0, f80_1, f80_6])
        refine hK82 _ _ _ ?_; clear hK82 K82
        refine wpOs_step rfl fun K83 hK83 => ?_
        (try simp only [go_sem, r10_6, q10_0, q10_1, d1, hlt, hl, r27_7, r27_8, q27_0, q27_1, q27_6, d2, d4, f80_0, f80_1, f80_6])
        refine hK83 _ _ _ ?_; clear hK83 K83
        refine wpOs_end ?_
        refine hK10 _ _ _ _ (by omega) ⟨i + 1, rfl, rfl, rfl, (by first | rfl | (simp only [go_sem, r10_6, q10_0, q10_1, d1, hlt, hl, r27_7, r27_8, q27_0, q27_1, q27_6, d2, d4, f80_0, f80_1, f80_6, f9_0, f9_1]; done) | (simp only [go_sem, r10_6, q10_0, q10_1, d1, hlt, hl, r27_7, r27_8, q27_0, q27_1, q27_6, d2, d4, f80_0, f80_1, f80_6, f9_0, f9_1]; rfl) | (simp only [go_sem, r10_6, q10_0, q10_1, d1, hlt, hl, r27_7, r27_8, q27_0, q27_1, q27_6, d2, d4, f80_0, f80_1, f80_6, f9_0, f9_1]; rw [wrap64 (by omega) (by omega)]; first | done | rfl | (congr 1; omega))), (by first | rfl | (simp only [go_sem, r10_6, q10_0, q10_1, d1, hlt, hl, r27_7, r27_8, q27_0, q27_1, q27_6, d2, d4, f80_0, f80_1, f80_6, f9_0, f9_1]; done) | (simp only [go_sem, r10_6, q10_0, q10_1, d1, hlt, hl, r27_7, r27_8, q27_0, q27_1, q27_6, d2, d4, f80_0, f80_1, f80_6, f9_0, f9_1]; rfl) | (simp only [go_sem, r10_6, q10_0, q10_1, d1, hlt, hl, r27_7, r27_8, q27_0, q27_1, q27_6, d2, d4, f80_0, f80_1, f80_6, f9_0, f9_1]; rw [wrap64 (by omega) (by omega)]; first | done | rfl | (congr 1; omega))), (by first | rfl | (simp only [go_sem, r10_6, q10_0, q10_1, d1, hlt, hl, r27_7, r27_8, q27_0, q27_1, q27_6, d2, d4, f80_0, f80_1, f80_6, f9_0, f9_1]; done) | (simp only [go_sem, r10_6, q10_0, q10_1, d1, hlt, hl, r27_7, r27_8, q27_0, q27_1, q27_6, d2, d4, f80_0, f80_1, f80_6, f9_0, f9_1]; rfl) | (simp only [go_sem, r10_6, q10_0, q10_1, d1, hlt, hl, r27_7, r27_8, q27_0, q27_1, q27_6, d2, d4, f80_0, f80_1, f80_6, f9_0, f9_1]; rw [wrap64 (by omega) (by omega)]; first | done | rfl | (congr 1; omega))), (by omega), (by rw [hc, satF_at hl, if_pos (by rw [show l.any (holdsB m) = b by rw [hany, hkge, List.take_length]]; simpa using d4)])⟩
  · skip
    have hge : i = L.length := by simp at d1; omega
    refine wpE_exit ?_
    (try simp only [go_sem])
    (try simp only [go_sem])
    refine hK5 _ _ _ ?_
    (try clear hK5 K5)
    refine wpE_seq fun K84 hK84 => ?_
    -- region 11
    refine wpE_gen fun ρ85 e85 => ?_
    clear e85
    refine wpE_region ?_
    refine wpOs_step rfl fun K86 hK86 => ?_
    (try simp only [go_sem, r10_6, q10_0, q10_1, d1])
    refine hK86 _ _ _ ?_; clear hK86 K86
    refine wpOs_step rfl fun K87 hK87 => ?_
    (try simp only [go_sem, r10_6, q10_0, q10_1, d1])
    refine hK87 _ _ _ ?_; clear hK87 K87
    refine wpOs_end ?_
    refine hK84 _ _ _ ?_
    (try clear hK84 K84)
    refine wpE_ret ?_
    (try simp only [go_sem, r10_6, q10_0, q10_1, d1])
    refine fin_ret2 rfl ?_
    (try simp only [go_sem, r10_6, q10_0, q10_1, d1])
    -- leaf 1
    refine told_flat ?_ (by simp [FV, FVs])
    rw [hc, hge, List.drop_length]; rfl
end Go.Ai
