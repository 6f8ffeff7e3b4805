/- The errors of clauses and formulas: what the program and the reference answer. -/
import Derived.Test.YtjggaanpodbmpaaS1
namespace Go.Ai
open Go.Proofs
set_option linter.unusedVariables false
set_option linter.unusedSimpArgs false

theorem drop_at {α : Type} {l : List α} {i : Nat} {n : α} (h : l[i]? = some n) : l.drop i = n :: l.drop (i + 1) := by
  obtain ⟨h1, h2⟩ := List.getElem?_eq_some_iff.1 h
  rw [List.drop_eq_getElem_cons h1, h2]
theorem has_at {α : Type} {l : List α} {i : Nat} (h : i < l.length) : ∃ n, l[i]? = some n := ⟨_, List.getElem?_eq_getElem h⟩
def clF (vars : Int) : Int → List Int → Int
  | _, [] => 0
  | p, n :: l => if n = 0 ∨ n < -vars ∨ n > vars then 3 else if absF n ≤ p then 13 else clF vars (absF n) l
def clauseF (vars : Int) (l : List Int) : Int := if l.length > 40 then 2 else clF vars 0 l
/-- The variable ahead of a place. -/
def prevF (l : List Int) (i : Nat) : Int := match i with
  | 0 => 0
  | j + 1 => absF (l.getD j 0)
theorem prevF_succ {l : List Int} {i : Nat} {n : Int} (h : l[i]? = some n) : prevF l (i + 1) = absF n := by
  simp [prevF, List.getD_eq_getElem?_getD, h]
theorem absF_pos {n vars : Int} (hv : 0 ≤ vars ∧ vars ≤ 400) (h : ¬ (n = 0 ∨ n < -vars ∨ n > vars)) : absF n = (if n < 0 then -n else n) ∧ 0 < absF n ∧ absF n ≤ vars ∧ inI64 n := by
  have : absF n = if n < 0 then -n else n := absF_eq (by omega) (by omega)
  refine ⟨this, ?_, ?_, ?_⟩
  · rw [this]; split <;> omega
  · rw [this]; split <;> omega
  · unfold inI64; omega
theorem clF_bad {vars p : Int} {n : Int} {l : List Int} (h : n = 0 ∨ n < -vars ∨ n > vars) : clF vars p (n :: l) = 3 := by simp only [clF]; rw [if_pos h]
theorem clF_ord {vars p : Int} {n : Int} {l : List Int} (h : ¬ (n = 0 ∨ n < -vars ∨ n > vars)) (h2 : absF n ≤ p) : clF vars p (n :: l) = 13 := by simp only [clF]; rw [if_neg h, if_pos h2]
theorem clF_next {vars p : Int} {n : Int} {l : List Int} (h : ¬ (n = 0 ∨ n < -vars ∨ n > vars)) (h2 : ¬ absF n ≤ p) : clF vars p (n :: l) = clF vars (absF n) l := by simp only [clF]; rw [if_neg h, if_neg h2]
def firstF (f : List Int → Int) : Nat → List (List Int) → Int × Int
  | _, [] => (0, 0)
  | i, l :: L => if f l ≠ 0 then (i, f l) else firstF f (i + 1) L
def checkF (n : Int) (L : List (List Int)) : Int × Int := if n < 0 ∨ n > 400 then (0, 3) else if L.length > 6000 then (0, 2) else firstF (clauseF n) 0 L

theorem prevF_of {l : List Int} {i : Nat} {q : Int} (hp : 0 < i) (h : l[i - 1]? = some q) : prevF l i = absF q := by
  obtain ⟨j, rfl⟩ : ∃ j, i = j + 1 := ⟨i - 1, by omega⟩
  exact prevF_succ h
theorem sub1 {i : Nat} (hp : 0 < i) (hm : i ≤ 1000000) : IntKind.i64.wrap ((i : Int) - 1) = ((i - 1 : Nat) : Int) := by
  rw [wrap64 (by omega) (by omega)]; omega

set_option maxHeartbeats 4000000 in
theorem clauseErr_fun (vars : Int) (hv : 0 ≤ vars ∧ vars ≤ 400) (l : List Int) (hl0 : ∀ n ∈ l, inI64 n) : Fun Try.prog 64 [.int .i64 vars, lst l] (.int .i64 (clauseF vars l)) [] := by
  refine fun_walk (kk := 1000000) prog_ok (show Try.prog.funcs[64]? = some Try.f64 by kernel_rfl) (show Try.f64.body = some _ from rfl) (by kernel_rfl) (by show 2 ≤ _; decide) (by simp) ?_
  refine wpE_seq fun K1 hK1 => ?_
  -- region 0
  refine wpE_gen fun ρ2 e2 => ?_
  have f2_0 := congrFun e2 0
  (simp only [go_sem] at f2_0)
  have f2_1 := congrFun e2 1
  (simp only [go_sem] at f2_1)
  clear e2
  refine wpE_region ?_
  refine wpOs_step rfl fun K3 hK3 => ?_
  (try simp only [go_sem, f2_0, f2_1])
  refine hK3 _ _ _ ?_; clear hK3 K3
  refine wpOs_end ?_
  refine hK1 _ _ _ ?_
  (try clear hK1 K1)
  refine wpE_seq fun K4 hK4 => ?_
  refine wpE_seq fun K5 hK5 => ?_
  -- region 1
  refine wpE_gen fun ρ6 e6 => ?_
  have f6_0 := congrFun e6 0
  (simp only [go_sem, f2_0, f2_1] at f6_0)
  have f6_1 := congrFun e6 1
  (simp only [go_sem, f2_0, f2_1] at f6_1)
  clear e6
  refine wpE_region ?_
  refine wpOs_step rfl fun K7 hK7 => ?_
  (try simp only [go_sem, f6_0, f6_1])
  refine hK7 _ _ _ ?_; clear hK7 K7
  refine wpOs_step rfl fun K8 hK8 => ?_
  (try simp only [go_sem, f6_0, f6_1])
  refine hK8 _ _ _ ?_; clear hK8 K8
  refine wpOs_step rfl fun K9 hK9 => ?_
  (try simp only [go_sem, f6_0, f6_1])
  refine hK9 _ _ _ ?_; clear hK9 K9
  refine wpOs_end ?_
  refine hK5 _ _ _ ?_
  (try clear hK5 K5)
  refine wpE_cond' ?_
  (try simp only [go_sem, f6_0, f6_1])
  refine branch_by (fun d1 => ?_) (fun d1 => ?_)
  · skip
    refine wpE_seq fun K10 hK10 => ?_
    -- region 2
    refine wpE_gen fun ρ11 e11 => ?_
    clear e11
    refine wpE_region ?_
    refine wpOs_step rfl fun K12 hK12 => ?_
    (try simp only [go_sem, d1])
    refine hK12 _ _ _ ?_; clear hK12 K12
    refine wpOs_end ?_
    refine hK10 _ _ _ ?_
    (try clear hK10 K10)
    refine wpE_ret ?_
    (try simp only [go_sem, d1])
    refine fin_ret1 rfl ?_
    (try simp only [go_sem, d1])
    -- leaf 0
    refine told_flat (congrArg _ ?_) (by simp [FV])
    unfold clauseF; rw [if_pos (by have := of_decide_eq_true d1; omega)]
  · skip
    have hlen : l.length ≤ 40 := by simp at d1; omega
    refine wpE_skip ?_
    (try simp only [go_sem])
    refine hK4 _ _ _ ?_
    (try clear hK4 K4)
    refine wpE_seq fun K13 hK13 => ?_
    refine wpE_seq fun K14 hK14 => ?_
    -- region 3
    refine wpE_gen fun ρ15 e15 => ?_
    have f15_0 := congrFun e15 0
    (simp only [go_sem, f6_0, f6_1, d1] at f15_0)
    have f15_1 := congrFun e15 1
    (simp only [go_sem, f6_0, f6_1, d1] at f15_1)
    clear e15
    refine wpE_region ?_
    refine wpOs_step rfl fun K16 hK16 => ?_
    (try simp only [go_sem, d1, f15_0, f15_1])
    refine hK16 _ _ _ ?_; clear hK16 K16
    refine wpOs_step rfl fun K17 hK17 => ?_
    (try simp only [go_sem, d1, f15_0, f15_1])
    refine hK17 _ _ _ ?_; clear hK17 K17
    refine wpOs_step rfl fun K18 hK18 => ?_
    (try simp only [go_sem, d1, f15_0, f15_1])
    refine hK18 _ _ _ ?_; clear hK18 K18
    refine wpOs_end ?_
    refine hK14 _ _ _ ?_
    (try clear hK14 K14)
    refine wpE_block ?_
    refine wpE_gen fun ρ19 e19 => ?_
    have f19_0 := congrFun e19 0
    (simp only [go_sem, d1, f15_0, f15_1] at f19_0)
    have f19_1 := congrFun e19 1
    (simp only [go_sem, d1, f15_0, f15_1] at f19_1)
    have f19_10 := congrFun e19 10
    (simp only [go_sem, d1, f15_0, f15_1] at f19_10)
    have f19_11 := congrFun e19 11
    (simp only [go_sem, d1, f15_0, f15_1] at f19_11)
    have f19_12 := congrFun e19 12
    (simp only [go_sem, d1, f15_0, f15_1] at f19_12)
    clear e19
    refine wpE_loop (fun m ρ df g => ∃ i : Nat, m = l.length - i ∧ df = [] ∧ g = hL [] ∧ ρ 12 = .int .i64 (i : Nat) ∧ ρ 0 = ρ19 0 ∧ ρ 1 = ρ19 1 ∧ ρ 10 = ρ19 10 ∧ ρ 11 = ρ19 11 ∧ i ≤ l.length ∧ clF vars 0 l = clF vars (prevF l i) (l.drop i)) (l.length) (by omega) ⟨0, rfl, rfl, rfl, (by first | rfl | (simp only [go_sem, d1, f19_0, f19_1, f19_10, f19_11, f19_12]; done) | (simp only [go_sem, d1, f19_0, f19_1, f19_10, f19_11, f19_12]; rfl)), rfl, rfl, rfl, rfl, (by omega), (by rfl)⟩ ?_
    rintro m20 K20 hK20 ρ df g ⟨i, hm20, rfl, rfl, r20_12, q20_0, q20_1, q20_10, q20_11, hi, hc⟩
    replace q20_0 := q20_0.trans f19_0
    replace q20_1 := q20_1.trans f19_1
    replace q20_10 := q20_10.trans f19_10
    replace q20_11 := q20_11.trans f19_11
    refine wpE_seq fun K21 hK21 => ?_
    -- region 4
    refine wpE_gen fun ρ22 e22 => ?_
    have f22_0 := congrFun e22 0
    (simp only [go_sem, d1, r20_12, q20_0, q20_1, q20_10, q20_11] at f22_0)
    have f22_1 := congrFun e22 1
    (simp only [go_sem, d1, r20_12, q20_0, q20_1, q20_10, q20_11] at f22_1)
    have f22_10 := congrFun e22 10
    (simp only [go_sem, d1, r20_12, q20_0, q20_1, q20_10, q20_11] at f22_10)
    have f22_11 := congrFun e22 11
    (simp only [go_sem, d1, r20_12, q20_0, q20_1, q20_10, q20_11] at f22_11)
    have f22_12 := congrFun e22 12
    (simp only [go_sem, d1, r20_12, q20_0, q20_1, q20_10, q20_11] at f22_12)
    clear e22
    refine wpE_region ?_
    refine wpOs_step rfl fun K23 hK23 => ?_
    (try simp only [go_sem, d1, r20_12, q20_0, q20_1, q20_10, q20_11, f22_0, f22_1, f22_10, f22_11, f22_12])
    refine hK23 _ _ _ ?_; clear hK23 K23
    refine wpOs_end ?_
    refine hK21 _ _ _ ?_
    (try clear hK21 K21)
    refine wpE_seq fun K24 hK24 => ?_
    refine wpE_cond' ?_
    (try simp only [go_sem, d1, r20_12, q20_0, q20_1, q20_10, q20_11, f22_0, f22_1, f22_10, f22_11, f22_12])
    refine branch_by (fun d2 => ?_) (fun d2 => ?_)
    · skip
      have hlt : i < l.length := by simpa using d2
      obtain ⟨n, hn⟩ := has_at hlt
      have hnI : inI64 n := hl0 n (List.mem_iff_getElem?.2 ⟨i, hn⟩)
      refine wpE_skip ?_
      (try simp only [go_sem])
      refine hK24 _ _ _ ?_
      (try clear hK24 K24)
      refine wpE_seq fun K25 hK25 => ?_
      refine wpE_block ?_
      refine wpE_seq fun K26 hK26 => ?_
      -- region 5
      refine wpE_gen fun ρ27 e27 => ?_
      have f27_0 := congrFun e27 0
      (simp only [go_sem, d1, r20_12, q20_0, q20_1, q20_10, q20_11, f22_0, f22_1, f22_10, f22_11, f22_12, d2, hlt, hn] at f27_0)
      have f27_1 := congrFun e27 1
      (simp only [go_sem, d1, r20_12, q20_0, q20_1, q20_10, q20_11, f22_0, f22_1, f22_10, f22_11, f22_12, d2, hlt, hn] at f27_1)
      have f27_10 := congrFun e27 10
      (simp only [go_sem, d1, r20_12, q20_0, q20_1, q20_10, q20_11, f22_0, f22_1, f22_10, f22_11, f22_12, d2, hlt, hn] at f27_10)
      have f27_11 := congrFun e27 11
      (simp only [go_sem, d1, r20_12, q20_0, q20_1, q20_10, q20_11, f22_0, f22_1, f22_10, f22_11, f22_12, d2, hlt, hn] at f27_11)
      have f27_12 := congrFun e27 12
      (simp only [go_sem, d1, r20_12, q20_0, q20_1, q20_10, q20_11, f22_0, f22_1, f22_10, f22_11, f22_12, d2, hlt, hn] at f27_12)
      clear e27
      refine wpE_region ?_
      refine wpOs_step rfl fun K28 hK28 => ?_
      (try simp only [go_sem, d1, r20_12, q20_0, q20_1, q20_10, q20_11, d2, hlt, hn, f27_0, f27_1, f27_10, f27_11, f27_12])
      refine hK28 _ _ _ ?_; clear hK28 K28
      refine wpOs_step rfl fun K29 hK29 => ?_
      (try simp only [go_sem, d1, r20_12, q20_0, q20_1, q20_10, q20_11, d2, hlt, hn, f27_0, f27_1, f27_10, f27_11, f27_12])
      refine hK29 _ _ _ ?_; clear hK29 K29
      refine wpOs_step rfl fun K30 hK30 => ?_
      (try simp only [go_sem, d1, r20_12, q20_0, q20_1, q20_10, q20_11, d2, hlt, hn, f27_0, f27_1, f27_10, f27_11, f27_12])
      refine hK30 _ _ _ ?_; clear hK30 K30
      refine wpOs_step rfl fun K31 hK31 => ?_
      (try simp only [go_sem, d1, r20_12, q20_0, q20_1, q20_10, q20_11, d2, hlt, hn, f27_0, f27_1, f27_10, f27_11, f27_12])
      refine hK31 _ _ _ ?_; clear hK31 K31
      refine wpOs_step rfl fun K32 hK32 => ?_
      (try simp only [go_sem, d1, r20_12, q20_0, q20_1, q20_10, q20_11, d2, hlt, hn, f27_0, f27_1, f27_10, f27_11, f27_12])
      refine hK32 _ _ _ ?_; clear hK32 K32
      refine wpOs_end ?_
      refine hK26 _ _ _ ?_
      (try clear hK26 K26)
      refine wpE_seq fun K33 hK33 => ?_
      refine wpE_seq fun K34 hK34 => ?_
      -- region 6
      have hneg : IntKind.i64.wrap (0 - vars) = -vars := by rw [wrap64 (by omega) (by omega)]; omega
      refine wpE_gen fun ρ35 e35 => ?_
      have f35_0 := congrFun e35 0
      (simp only [go_sem, d1, r20_12, q20_0, q20_1, q20_10, q20_11, d2, hlt, hn, f27_0, f27_1, f27_10, f27_11, f27_12, hneg] at f35_0)
      have f35_1 := congrFun e35 1
      (simp only [go_sem, d1, r20_12, q20_0, q20_1, q20_10, q20_11, d2, hlt, hn, f27_0, f27_1, f27_10, f27_11, f27_12, hneg] at f35_1)
      have f35_5 := congrFun e35 5
      (simp only [go_sem, d1, r20_12, q20_0, q20_1, q20_10, q20_11, d2, hlt, hn, f27_0, f27_1, f27_10, f27_11, f27_12, hneg] at f35_5)
      have f35_6 := congrFun e35 6
      (simp only [go_sem, d1, r20_12, q20_0, q20_1, q20_10, q20_11, d2, hlt, hn, f27_0, f27_1, f27_10, f27_11, f27_12, hneg] at f35_6)
      have f35_10 := congrFun e35 10
      (simp only [go_sem, d1, r20_12, q20_0, q20_1, q20_10, q20_11, d2, hlt, hn, f27_0, f27_1, f27_10, f27_11, f27_12, hneg] at f35_10)
      have f35_11 := congrFun e35 11
      (simp only [go_sem, d1, r20_12, q20_0, q20_1, q20_10, q20_11, d2, hlt, hn, f27_0, f27_1, f27_10, f27_11, f27_12, hneg] at f35_11)
      have f35_12 := congrFun e35 12
      (simp only [go_sem, d1, r20_12, q20_0, q20_1, q20_10, q20_11, d2, hlt, hn, f27_0, f27_1, f27_10, f27_11, f27_12, hneg] at f35_12)
      clear e35
      refine wpE_region ?_
      refine wpOs_step rfl fun K36 hK36 => ?_
      (try simp only [go_sem, d1, r20_12, q20_0, q20_1, q20_10, q20_11, d2, hlt, hn, hneg, f35_0, f35_1, f35_5, f35_6, f35_10, f35_11, f35_12])
      refine hK36 _ _ _ ?_; clear hK36 K36
      refine wpOs_step rfl fun K37 hK37 => ?_
      (try simp only [go_sem, d1, r20_12, q20_0, q20_1, q20_10, q20_11, d2, hlt, hn, hneg, f35_0, f35_1, f35_5, f35_6, f35_10, f35_11, f35_12])
      refine hK37 _ _ _ ?_; clear hK37 K37
      refine wpOs_step rfl fun K38 hK38 => ?_
      (try simp only [go_sem, d1, r20_12, q20_0, q20_1, q20_10, q20_11, d2, hlt, hn, hneg, f35_0, f35_1, f35_5, f35_6, f35_10, f35_11, f35_12])
      refine hK38 _ _ _ ?_; clear hK38 K38
      refine wpOs_guard rfl rfl fun K39 hK39 => ?_
      (try simp only [go_sem, d1, r20_12, q20_0, q20_1, q20_10, q20_11, d2, hlt, hn, hneg, f35_0, f35_1, f35_5, f35_6, f35_10, f35_11, f35_12])
      refine branch_by (fun d3 => ?_) (fun d3 => ?_)
      · skip
        (try simp only [go_sem, d1, r20_12, q20_0, q20_1, q20_10, q20_11, d2, hlt, hn, hneg, f35_0, f35_1, f35_5, f35_6, f35_10, f35_11, f35_12, d3])
        refine hK39 _ _ _ ?_; clear hK39 K39
        refine wpOs_guard rfl rfl fun K40 hK40 => ?_
        (try simp only [go_sem, d1, r20_12, q20_0, q20_1, q20_10, q20_11, d2, hlt, hn, hneg, f35_0, f35_1, f35_5, f35_6, f35_10, f35_11, f35_12, d3])
        refine hK40 _ _ _ ?_; clear hK40 K40
        refine wpOs_guard rfl rfl fun K41 hK41 => ?_
        (try simp only [go_sem, d1, r20_12, q20_0, q20_1, q20_10, q20_11, d2, hlt, hn, hneg, f35_0, f35_1, f35_5, f35_6, f35_10, f35_11, f35_12, d3])
        refine hK41 _ _ _ ?_; clear hK41 K41
        refine wpOs_guard rfl rfl fun K42 hK42 => ?_
        (try simp only [go_sem, d1, r20_12, q20_0, q20_1, q20_10, q20_11, d2, hlt, hn, hneg, f35_0, f35_1, f35_5, f35_6, f35_10, f35_11, f35_12, d3])
        refine hK42 _ _ _ ?_; clear hK42 K42
        refine wpOs_step rfl fun K43 hK43 => ?_
        (try simp only [go_sem, d1, r20_12, q20_0, q20_1, q20_10, q20_11, d2, hlt, hn, hneg, f35_0, f35_1, f35_5, f35_6, f35_10, f35_11, f35_12, d3])
        refine hK43 _ _ _ ?_; clear hK43 K43
        refine wpOs_step rfl fun K44 hK44 => ?_
        (try simp only [go_sem, d1, r20_12, q20_0, q20_1, q20_10, q20_11, d2, hlt, hn, hneg, f35_0, f35_1, f35_5, f35_6, f35_10, f35_11, f35_12, d3])
        refine hK44 _ _ _ ?_; clear hK44 K44
        refine wpOs_guard rfl rfl fun K45 hK45 => ?_
        (try simp only [go_sem, d1, r20_12, q20_0, q20_1, q20_10, q20_11, d2, hlt, hn, hneg, f35_0, f35_1, f35_5, f35_6, f35_10, f35_11, f35_12, d3])
        refine hK45 _ _ _ ?_; clear hK45 K45
        refine wpOs_guard rfl rfl fun K46 hK46 => ?_
        (try simp only [go_sem, d1, r20_12, q20_0, q20_1, q20_10, q20_11, d2, hlt, hn, hneg, f35_0, f35_1, f35_5, f35_6, f35_10, f35_11, f35_12, d3])
        refine hK46 _ _ _ ?_; clear hK46 K46
        refine wpOs_guard rfl rfl fun K47 hK47 => ?_
        (try simp only [go_sem, d1, r20_12, q20_0, q20_1, q20_10, q20_11, d2, hlt, hn, hneg, f35_0, f35_1, f35_5, f35_6, f35_10, f35_11, f35_12, d3])
        refine hK47 _ _ _ ?_; clear hK47 K47
        refine wpOs_step rfl fun K48 hK48 => ?_
        (try simp only [go_sem, d1, r20_12, q20_0, q20_1, q20_10, q20_11, d2, hlt, hn, hneg, f35_0, f35_1, f35_5, f35_6, f35_10, f35_11, f35_12, d3])
        refine hK48 _ _ _ ?_; clear hK48 K48
        refine wpOs_end ?_
        refine hK34 _ _ _ ?_
        (try clear hK34 K34)
        refine wpE_condT (by simp only [go_sem, d1, r20_12, q20_0, q20_1, q20_10, q20_11, d2, hlt, hn, hneg, f35_0, f35_1, f35_5, f35_6, f35_10, f35_11, f35_12, d3]) ?_
        refine wpE_seq fun K49 hK49 => ?_
        -- region 7
        refine wpE_gen fun ρ50 e50 => ?_
        clear e50
        refine wpE_region ?_
        refine wpOs_step rfl fun K51 hK51 => ?_
        (try simp only [go_sem, d1, r20_12, q20_0, q20_1, q20_10, q20_11, d2, hlt, hn, hneg, d3])
        refine hK51 _ _ _ ?_; clear hK51 K51
        refine wpOs_end ?_
        refine hK49 _ _ _ ?_
        (try clear hK49 K49)
        refine wpE_ret ?_
        (try simp only [go_sem, d1, r20_12, q20_0, q20_1, q20_10, q20_11, d2, hlt, hn, hneg, d3])
        refine fin_ret1 rfl ?_
        (try simp only [go_sem, d1, r20_12, q20_0, q20_1, q20_10, q20_11, d2, hlt, hn, hneg, d3])
        -- leaf 1
        refine told_flat (congrArg _ ?_) (by simp [FV])
        unfold clauseF; rw [if_neg (by omega), hc, drop_at hn, clF_bad]
        first | exact .inl (of_decide_eq_true d3) | exact .inr (.inl (of_decide_eq_true d_unknown)) | exact .inr (.inr (of_decide_eq_true d_unknown))
      · skip
        (try simp only [go_sem, d1, r20_12, q20_0, q20_1, q20_10, q20_11, d2, hlt, hn, hneg, f35_0, f35_1, f35_5, f35_6, f35_10, f35_11, f35_12, d3])
        refine hK39 _ _ _ ?_; clear hK39 K39
        refine wpOs_guard rfl rfl fun K52 hK52 => ?_
        (try simp only [go_sem, d1, r20_12, q20_0, q20_1, q20_10, q20_11, d2, hlt, hn, hneg, f35_0, f35_1, f35_5, f35_6, f35_10, f35_11, f35_12, d3])
        refine hK52 _ _ _ ?_; clear hK52 K52
        refine wpOs_guard rfl rfl fun K53 hK53 => ?_
        (try simp only [go_sem, d1, r20_12, q20_0, q20_1, q20_10, q20_11, d2, hlt, hn, hneg, f35_0, f35_1, f35_5, f35_6, f35_10, f35_11, f35_12, d3])
        refine hK53 _ _ _ ?_; clear hK53 K53
        refine wpOs_guard rfl rfl fun K54 hK54 => ?_
        (try simp only [go_sem, d1, r20_12, q20_0, q20_1, q20_10, q20_11, d2, hlt, hn, hneg, f35_0, f35_1, f35_5, f35_6, f35_10, f35_11, f35_12, d3])
        refine hK54 _ _ _ ?_; clear hK54 K54
        refine wpOs_step rfl fun K55 hK55 => ?_
        (try simp only [go_sem, d1, r20_12, q20_0, q20_1, q20_10, q20_11, d2, hlt, hn, hneg, f35_0, f35_1, f35_5, f35_6, f35_10, f35_11, f35_12, d3])
        refine hK55 _ _ _ ?_; clear hK55 K55
        refine wpOs_step rfl fun K56 hK56 => ?_
        (try simp only [go_sem, d1, r20_12, q20_0, q20_1, q20_10, q20_11, d2, hlt, hn, hneg, f35_0, f35_1, f35_5, f35_6, f35_10, f35_11, f35_12, d3])
        refine hK56 _ _ _ ?_; clear hK56 K56
        refine wpOs_guard rfl rfl fun K57 hK57 => ?_
        (try simp only [go_sem, d1, r20_12, q20_0, q20_1, q20_10, q20_11, d2, hlt, hn, hneg, f35_0, f35_1, f35_5, f35_6, f35_10, f35_11, f35_12, d3])
        refine branch_by (fun d4 => ?_) (fun d4 => ?_)
        · skip
          (try simp only [go_sem, d1, r20_12, q20_0, q20_1, q20_10, q20_11, d2, hlt, hn, hneg, f35_0, f35_1, f35_5, f35_6, f35_10, f35_11, f35_12, d3, d4])
          refine hK57 _ _ _ ?_; clear hK57 K57
          refine wpOs_guard rfl rfl fun K58 hK58 => ?_
          (try simp only [go_sem, d1, r20_12, q20_0, q20_1, q20_10, q20_11, d2, hlt, hn, hneg, f35_0, f35_1, f35_5, f35_6, f35_10, f35_11, f35_12, d3, d4])
          refine hK58 _ _ _ ?_; clear hK58 K58
          refine wpOs_guard rfl rfl fun K59 hK59 => ?_
          (try simp only [go_sem, d1, r20_12, q20_0, q20_1, q20_10, q20_11, d2, hlt, hn, hneg, f35_0, f35_1, f35_5, f35_6, f35_10, f35_11, f35_12, d3, d4])
          refine hK59 _ _ _ ?_; clear hK59 K59
          refine wpOs_step rfl fun K60 hK60 => ?_
          (try simp only [go_sem, d1, r20_12, q20_0, q20_1, q20_10, q20_11, d2, hlt, hn, hneg, f35_0, f35_1, f35_5, f35_6, f35_10, f35_11, f35_12, d3, d4])
          refine hK60 _ _ _ ?_; clear hK60 K60
          refine wpOs_end ?_
          refine hK34 _ _ _ ?_
          (try clear hK34 K34)
          refine wpE_condT (by simp only [go_sem, d1, r20_12, q20_0, q20_1, q20_10, q20_11, d2, hlt, hn, hneg, f35_0, f35_1, f35_5, f35_6, f35_10, f35_11, f35_12, d3, d4]) ?_
          refine wpE_seq fun K61 hK61 => ?_
          -- region 7
          refine wpE_gen fun ρ62 e62 => ?_
          clear e62
          refine wpE_region ?_
          refine wpOs_step rfl fun K63 hK63 => ?_
          (try simp only [go_sem, d1, r20_12, q20_0, q20_1, q20_10, q20_11, d2, hlt, hn, hneg, d3, d4])
          refine hK63 _ _ _ ?_; clear hK63 K63
          refine wpOs_end ?_
          refine hK61 _ _ _ ?_
          (try clear hK61 K61)
          refine wpE_ret ?_
          (try simp only [go_sem, d1, r20_12, q20_0, q20_1, q20_10, q20_11, d2, hlt, hn, hneg, d3, d4])
          refine fin_ret1 rfl ?_
          (try simp only [go_sem, d1, r20_12, q20_0, q20_1, q20_10, q20_11, d2, hlt, hn, hneg, d3, d4])
          -- leaf 2
          refine told_flat (congrArg _ ?_) (by simp [FV])
          unfold clauseF; rw [if_neg (by omega), hc, drop_at hn, clF_bad]
          first | exact .inl (of_decide_eq_true d3) | exact .inr (.inl (of_decide_eq_true d4)) | exact .inr (.inr (of_decide_eq_true d_unknown))
        · skip
          (try simp only [go_sem, d1, r20_12, q20_0, q20_1, q20_10, q20_11, d2, hlt, hn, hneg, f35_0, f35_1, f35_5, f35_6, f35_10, f35_11, f35_12, d3, d4])
          refine hK57 _ _ _ ?_; clear hK57 K57
          refine wpOs_guard rfl rfl fun K64 hK64 => ?_
          (try simp only [go_sem, d1, r20_12, q20_0, q20_1, q20_10, q20_11, d2, hlt, hn, hneg, f35_0, f35_1, f35_5, f35_6, f35_10, f35_11, f35_12, d3, d4])
          refine hK64 _ _ _ ?_; clear hK64 K64
          refine wpOs_guard rfl rfl fun K65 hK65 => ?_
          (try simp only [go_sem, d1, r20_12, q20_0, q20_1, q20_10, q20_11, d2, hlt, hn, hneg, f35_0, f35_1, f35_5, f35_6, f35_10, f35_11, f35_12, d3, d4])
          refine hK65 _ _ _ ?_; clear hK65 K65
          refine wpOs_step rfl fun K66 hK66 => ?_
          (try simp only [go_sem, d1, r20_12, q20_0, q20_1, q20_10, q20_11, d2, hlt, hn, hneg, f35_0, f35_1, f35_5, f35_6, f35_10, f35_11, f35_12, d3, d4])
          refine hK66 _ _ _ ?_; clear hK66 K66
          refine wpOs_end ?_
          refine hK34 _ _ _ ?_
          (try clear hK34 K34)
          refine wpE_cond' ?_
          (try simp only [go_sem, d1, r20_12, q20_0, q20_1, q20_10, q20_11, d2, hlt, hn, hneg, f35_0, f35_1, f35_5, f35_6, f35_10, f35_11, f35_12, d3, d4])
          refine branch_by (fun d5 => ?_) (fun d5 => ?_)
          · skip
            refine wpE_seq fun K67 hK67 => ?_
            -- region 7
            refine wpE_gen fun ρ68 e68 => ?_
            clear e68
            refine wpE_region ?_
            refine wpOs_step rfl fun K69 hK69 => ?_
            (try simp only [go_sem, d1, r20_12, q20_0, q20_1, q20_10, q20_11, d2, hlt, hn, hneg, d3, d4, d5])
            refine hK69 _ _ _ ?_; clear hK69 K69
            refine wpOs_end ?_
            refine hK67 _ _ _ ?_
            (try clear hK67 K67)
            refine wpE_ret ?_
            (try simp only [go_sem, d1, r20_12, q20_0, q20_1, q20_10, q20_11, d2, hlt, hn, hneg, d3, d4, d5])
            refine fin_ret1 rfl ?_
            (try simp only [go_sem, d1, r20_12, q20_0, q20_1, q20_10, q20_11, d2, hlt, hn, hneg, d3, d4, d5])
            -- leaf 3
            refine told_flat (congrArg _ ?_) (by simp [FV])
            unfold clauseF; rw [if_neg (by omega), hc, drop_at hn, clF_bad]
            first | exact .inl (of_decide_eq_true d3) | exact .inr (.inl (of_decide_eq_true d4)) | exact .inr (.inr (of_decide_eq_true d5))
          · skip
            refine wpE_skip ?_
            (try simp only [go_sem])
            refine hK33 _ _ _ ?_
            (try clear hK33 K33)
            refine wpE_seq fun K70 hK70 => ?_
            -- region 8
            refine wpE_gen fun ρ71 e71 => ?_
            have f71_0 := congrFun e71 0
            (simp only [go_sem, d1, r20_12, q20_0, q20_1, q20_10, q20_11, d2, hlt, hn, hneg, f35_0, f35_1, f35_5, f35_6, f35_10, f35_11, f35_12, d3, d4, d5] at f71_0)
            have f71_1 := congrFun e71 1
            (simp only [go_sem, d1, r20_12, q20_0, q20_1, q20_10, q20_11, d2, hlt, hn, hneg, f35_0, f35_1, f35_5, f35_6, f35_10, f35_11, f35_12, d3, d4, d5] at f71_1)
            have f71_5 := congrFun e71 5
            (simp only [go_sem, d1, r20_12, q20_0, q20_1, q20_10, q20_11, d2, hlt, hn, hneg, f35_0, f35_1, f35_5, f35_6, f35_10, f35_11, f35_12, d3, d4, d5] at f71_5)
            have f71_6 := congrFun e71 6
            (simp only [go_sem, d1, r20_12, q20_0, q20_1, q20_10, q20_11, d2, hlt, hn, hneg, f35_0, f35_1, f35_5, f35_6, f35_10, f35_11, f35_12, d3, d4, d5] at f71_6)
            have f71_10 := congrFun e71 10
            (simp only [go_sem, d1, r20_12, q20_0, q20_1, q20_10, q20_11, d2, hlt, hn, hneg, f35_0, f35_1, f35_5, f35_6, f35_10, f35_11, f35_12, d3, d4, d5] at f71_10)
            have f71_11 := congrFun e71 11
            (simp only [go_sem, d1, r20_12, q20_0, q20_1, q20_10, q20_11, d2, hlt, hn, hneg, f35_0, f35_1, f35_5, f35_6, f35_10, f35_11, f35_12, d3, d4, d5] at f71_11)
            have f71_12 := congrFun e71 12
            (simp only [go_sem, d1, r20_12, q20_0, q20_1, q20_10, q20_11, d2, hlt, hn, hneg, f35_0, f35_1, f35_5, f35_6, f35_10, f35_11, f35_12, d3, d4, d5] at f71_12)
            clear e71
            refine wpE_draw [] (by decide +kernel) ?_
            refine wpQs_step rfl fun K72 hK72 => ?_
            (try simp only [go_sem, d1, r20_12, q20_0, q20_1, q20_10, q20_11, d2, hlt, hn, hneg, d3, d4, d5, f71_0, f71_1, f71_5, f71_6, f71_10, f71_11, f71_12])
            refine hK72 _ _ _ ?_; clear hK72 K72
            refine wpQs_step rfl fun K73 hK73 => ?_
            (try simp only [go_sem, d1, r20_12, q20_0, q20_1, q20_10, q20_11, d2, hlt, hn, hneg, d3, d4, d5, f71_0, f71_1, f71_5, f71_6, f71_10, f71_11, f71_12])
            refine hK73 _ _ _ ?_; clear hK73 K73
            refine wpQs_step rfl fun K74 hK74 => ?_
            (try simp only [go_sem, d1, r20_12, q20_0, q20_1, q20_10, q20_11, d2, hlt, hn, hneg, d3, d4, d5, f71_0, f71_1, f71_5, f71_6, f71_10, f71_11, f71_12])
            refine hK74 _ _ _ ?_; clear hK74 K74
            refine wpQs_guard rfl rfl fun K75 hK75 => ?_
            (try simp only [go_sem, d1, r20_12, q20_0, q20_1, q20_10, q20_11, d2, hlt, hn, hneg, d3, d4, d5, f71_0, f71_1, f71_5, f71_6, f71_10, f71_11, f71_12])
            refine branch_by (fun d6 => ?_) (fun d6 => ?_)
            · skip
              have hpos : 0 < i := by simpa using d6
              have hsub := sub1 hpos (by omega)
              obtain ⟨q, hq⟩ := has_at (show i - 1 < l.length by omega)
              have hlt' : i - 1 < l.length := by omega
              have hqI : inI64 q := hl0 q (List.mem_iff_getElem?.2 ⟨i - 1, hq⟩)
              (try simp only [go_sem, d1, r20_12, q20_0, q20_1, q20_10, q20_11, d2, hlt, hn, hneg, d3, d4, d5, f71_0, f71_1, f71_5, f71_6, f71_10, f71_11, f71_12, d6, hsub, hq, hlt'])
              refine hK75 _ _ _ ?_; clear hK75 K75
              refine wpQs_guard rfl rfl fun K76 hK76 => ?_
              (try simp only [go_sem, d1, r20_12, q20_0, q20_1, q20_10, q20_11, d2, hlt, hn, hneg, d3, d4, d5, f71_0, f71_1, f71_5, f71_6, f71_10, f71_11, f71_12, d6, hsub, hq, hlt'])
              refine call_fun (variable_fun _ (by first | exact hnI | exact hqI)) rfl rfl (fun _ => rfl) ?_
              (try simp only [go_sem, d1, r20_12, q20_0, q20_1, q20_10, q20_11, d2, hlt, hn, hneg, d3, d4, d5, f71_0, f71_1, f71_5, f71_6, f71_10, f71_11, f71_12, d6, hsub, hq, hlt'])
              refine hK76 _ _ _ ?_; clear hK76 K76
              refine wpQs_guard rfl rfl fun K77 hK77 => ?_
              (try simp only [go_sem, d1, r20_12, q20_0, q20_1, q20_10, q20_11, d2, hlt, hn, hneg, d3, d4, d5, f71_0, f71_1, f71_5, f71_6, f71_10, f71_11, f71_12, d6, hsub, hq, hlt'])
              refine hK77 _ _ _ ?_; clear hK77 K77
              refine wpQs_guard rfl rfl fun K78 hK78 => ?_
              (try simp only [go_sem, d1, r20_12, q20_0, q20_1, q20_10, q20_11, d2, hlt, hn, hneg, d3, d4, d5, f71_0, f71_1, f71_5, f71_6, f71_10, f71_11, f71_12, d6, hsub, hq, hlt'])
              refine hK78 _ _ _ ?_; clear hK78 K78
              refine wpQs_guard rfl rfl fun K79 hK79 => ?_
              (try simp only [go_sem, d1, r20_12, q20_0, q20_1, q20_10, q20_11, d2, hlt, hn, hneg, d3, d4, d5, f71_0, f71_1, f71_5, f71_6, f71_10, f71_11, f71_12, d6, hsub, hq, hlt'])
              refine hK79 _ _ _ ?_; clear hK79 K79
              refine wpQs_guard rfl rfl fun K80 hK80 => ?_
              (try simp only [go_sem, d1, r20_12, q20_0, q20_1, q20_10, q20_11, d2, hlt, hn, hneg, d3, d4, d5, f71_0, f71_1, f71_5, f71_6, f71_10, f71_11, f71_12, d6, hsub, hq, hlt'])
              refine hK80 _ _ _ ?_; clear hK80 K80
              refine wpQs_guard rfl rfl fun K81 hK81 => ?_
              (try simp only [go_sem, d1, r20_12, q20_0, q20_1, q20_10, q20_11, d2, hlt, hn, hneg, d3, d4, d5, f71_0, f71_1, f71_5, f71_6, f71_10, f71_11, f71_12, d6, hsub, hq, hlt'])
              refine hK81 _ _ _ ?_; clear hK81 K81
              refine wpQs_guard rfl rfl fun K82 hK82 => ?_
              (try simp only [go_sem, d1, r20_12, q20_0, q20_1, q20_10, q20_11, d2, hlt, hn, hneg, d3, d4, d5, f71_0, f71_1, f71_5, f71_6, f71_10, f71_11, f71_12, d6, hsub, hq, hlt'])
              refine call_fun (variable_fun _ (by first | exact hnI | exact hqI)) rfl rfl (fun _ => rfl) ?_
              (try simp only [go_sem, d1, r20_12, q20_0, q20_1, q20_10, q20_11, d2, hlt, hn, hneg, d3, d4, d5, f71_0, f71_1, f71_5, f71_6, f71_10, f71_11, f71_12, d6, hsub, hq, hlt'])
              refine hK82 _ _ _ ?_; clear hK82 K82
              refine wpQs_guard rfl rfl fun K83 hK83 => ?_
              (try simp only [go_sem, d1, r20_12, q20_0, q20_1, q20_10, q20_11, d2, hlt, hn, hneg, d3, d4, d5, f71_0, f71_1, f71_5, f71_6, f71_10, f71_11, f71_12, d6, hsub, hq, hlt'])
              refine hK83 _ _ _ ?_; clear hK83 K83
              refine wpQs_step rfl fun K84 hK84 => ?_
              (try simp only [go_sem, d1, r20_12, q20_0, q20_1, q20_10, q20_11, d2, hlt, hn, hneg, d3, d4, d5, f71_0, f71_1, f71_5, f71_6, f71_10, f71_11, f71_12, d6, hsub, hq, hlt'])
              refine hK84 _ _ _ ?_; clear hK84 K84
              refine wpQs_end ?_
              refine hK70 _ _ _ ?_
              (try clear hK70 K70)
              refine wpE_cond' ?_
              (try simp only [go_sem, d1, r20_12, q20_0, q20_1, q20_10, q20_11, d2, hlt, hn, hneg, d3, d4, d5, f71_0, f71_1, f71_5, f71_6, f71_10, f71_11, f71_12, d6, hsub, hq, hlt'])
              refine branch_by (fun d7 => ?_) (fun d7 => ?_)
              · skip
                refine wpE_seq fun K85 hK85 => ?_
                -- region 9
                refine wpE_gen fun ρ86 e86 => ?_
                clear e86
                refine wpE_region ?_
                refine wpOs_step rfl fun K87 hK87 => ?_
                (try simp only [go_sem, d1, r20_12, q20_0, q20_1, q20_10, q20_11, d2, hlt, hn, hneg, d3, d4, d5, d6, hsub, hq, hlt', d7])
                refine hK87 _ _ _ ?_; clear hK87 K87
                refine wpOs_end ?_
                refine hK85 _ _ _ ?_
                (try clear hK85 K85)
                refine wpE_ret ?_
                (try simp only [go_sem, d1, r20_12, q20_0, q20_1, q20_10, q20_11, d2, hlt, hn, hneg, d3, d4, d5, d6, hsub, hq, hlt', d7])
                refine fin_ret1 rfl ?_
                (try simp only [go_sem, d1, r20_12, q20_0, q20_1, q20_10, q20_11, d2, hlt, hn, hneg, d3, d4, d5, d6, hsub, hq, hlt', d7])
                -- leaf 4
                refine told_flat (congrArg _ ?_) (by simp [FV])
                unfold clauseF; rw [if_neg (by omega), hc, drop_at hn, clF_ord]
                · have a1 := of_decide_eq_false d3; have a2 := of_decide_eq_false d4; have a3 := of_decide_eq_false d5; omega
                · rw [prevF_of hpos hq]; exact of_decide_eq_true d7
              · skip
                refine wpE_skip ?_
                (try simp only [go_sem])
                refine hK25 _ _ _ ?_
                (try clear hK25 K25)
                -- region 10
                refine wpE_gen fun ρ88 e88 => ?_
                have f88_0 := congrFun e88 0
                (simp only [go_sem, d1, r20_12, q20_0, q20_1, q20_10, q20_11, d2, hlt, hn, hneg, d3, d4, d5, f71_0, f71_1, f71_5, f71_6, f71_10, f71_11, f71_12, d6, hsub, hq, hlt', d7] at f88_0)
                have f88_1 := congrFun e88 1
                (simp only [go_sem, d1, r20_12, q20_0, q20_1, q20_10, q20_11, d2, hlt, hn, hneg, d3, d4, d5, f71_0, f71_1, f71_5, f71_6, f71_10, f71_11, f71_12, d6, hsub, hq, hlt', d7] at f88_1)
                have f88_10 := congrFun e88 10
                (simp only [go_sem, d1, r20_12, q20_0, q20_1, q20_10, q20_11, d2, hlt, hn, hneg, d3, d4, d5, f71_0, f71_1, f71_5, f71_6, f71_10, f71_11, f71_12, d6, hsub, hq, hlt', d7] at f88_10)
                have f88_11 := congrFun e88 11
                (simp only [go_sem, d1, r20_12, q20_0, q20_1, q20_10, q20_11, d2, hlt, hn, hneg, d3, d4, d5, f71_0, f71_1, f71_5, f71_6, f71_10, f71_11, f71_12, d6, hsub, hq, hlt', d7] at f88_11)
                have f88_12 := congrFun e88 12
                (simp only [go_sem, d1, r20_12, q20_0, q20_1, q20_10, q20_11, d2, hlt, hn, hneg, d3, d4, d5, f71_0, f71_1, f71_5, f71_6, f71_10, f71_11, f71_12, d6, hsub, hq, hlt', d7] at f88_12)
                clear e88
                refine wpE_region ?_
                refine wpOs_step rfl fun K89 hK89 => ?_
                (try simp only [go_sem, d1, r20_12, q20_0, q20_1, q20_10, q20_11, d2, hlt, hn, hneg, d3, d4, d5, d6, hsub, hq, hlt', d7, f88_0, f88_1, f88_10, f88_11, f88_12])
                refine hK89 _ _ _ ?_; clear hK89 K89
                refine wpOs_step rfl fun K90 hK90 => ?_
                (try simp only [go_sem, d1, r20_12, q20_0, q20_1, q20_10, q20_11, d2, hlt, hn, hneg, d3, d4, d5, d6, hsub, hq, hlt', d7, f88_0, f88_1, f88_10, f88_11, f88_12])
                refine hK90 _ _ _ ?_; clear hK90 K90
                refine wpOs_end ?_
                have hbad : ¬ (n = 0 ∨ n < -vars ∨ n > vars) := by
                  have a1 := of_decide_eq_false d3; have a2 := of_decide_eq_false d4; have a3 := of_decide_eq_false d5; omega
                have hord : ¬ absF n ≤ prevF l i := by
                  rcases Nat.eq_zero_or_pos i with e0 | hp
                  · have := (absF_pos hv hbad).2.1; rw [e0]; simp only [prevF]; omega
                  · first | (rw [prevF_of hp hq]; exact of_decide_eq_false d7) | exact absurd hp (by have := of_decide_eq_false d6; omega)
                refine hK20 _ _ _ _ (by omega) ⟨i + 1, rfl, rfl, rfl, (by first | rfl | (simp only [go_sem, d1, r20_12, q20_0, q20_1, q20_10, q20_11, d2, hlt, hn, hneg, d3, d4, d5, d6, hsub, hq, hlt', d7, f88_0, f88_1, f88_10, f88_11, f88_12, f19_0, f19_1, f19_10, f19_11]; done) | (simp only [go_sem, d1, r20_12, q20_0, q20_1, q20_10, q20_11, d2, hlt, hn, hneg, d3, d4, d5, d6, hsub, hq, hlt', d7, f88_0, f88_1, f88_10, f88_11, f88_12, f19_0, f19_1, f19_10, f19_11]; rfl) | (simp only [go_sem, d1, r20_12, q20_0, q20_1, q20_10, q20_11, d2, hlt, hn, hneg, d3, d4, d5, d6, hsub, hq, hlt', d7, f88_0, f88_1, f88_10, f88_11, f88_12, f19_0, f19_1, f19_10, f19_11]; rw [wrap64 (by omega) (by omega)]; first | done | rfl | (congr 1; omega))), (by first | rfl | (simp only [go_sem, d1, r20_12, q20_0, q20_1, q20_10, q20_11, d2, hlt, hn, hneg, d3, d4, d5, d6, hsub, hq, hlt', d7, f88_0, f88_1, f88_10, f88_11, f88_12, f19_0, f19_1, f19_10, f19_11]; done) | (simp only [go_sem, d1, r20_12, q20_0, q20_1, q20_10, q20_11, d2, hlt, hn, hneg, d3, d4, d5, d6, hsub, hq, hlt', d7, f88_0, f88_1, f88_10, f88_11, f88_12, f19_0, f19_1, f19_10, f19_11]; rfl) | (simp only [go_sem, d1, r20_12, q20_0, q20_1, q20_10, q20_11, d2, hlt, hn, hneg, d3, d4, d5, d6, hsub, hq, hlt', d7, f88_0, f88_1, f88_10, f88_11, f88_12, f19_0, f19_1, f19_10, f19_11]; rw [wrap64 (by omega) (by omega)]; first | done | rfl | (congr 1; omega))), (by first | rfl | (simp only [go_sem, d1, r20_12, q20_0, q20_1, q20_10, q20_11, d2, hlt, hn, hneg, d3, d4, d5, d6, hsub, hq, hlt', d7, f88_0, f88_1, f88_10, f88_11, f88_12, f19_0, f19_1, f19_10, f19_11]; done) | (simp only [go_sem, d1, r20_12, q20_0, q20_1, q20_10, q20_11, d2, hlt, hn, hneg, d3, d4, d5, d6, hsub, hq, hlt', d7, f88_0, f88_1, f88_10, f88_11, f88_12, f19_0, f19_1, f19_10, f19_11]; rfl) | (simp only [go_sem, d1, r20_12, q20_0, q20_1, q20_10, q20_11, d2, hlt, hn, hneg, d3, d4, d5, d6, hsub, hq, hlt', d7, f88_0, f88_1, f88_10, f88_11, f88_12, f19_0, f19_1, f19_10, f19_11]; rw [wrap64 (by omega) (by omega)]; first | done | rfl | (congr 1; omega))), (by first | rfl | (simp only [go_sem, d1, r20_12, q20_0, q20_1, q20_10, q20_11, d2, hlt, hn, hneg, d3, d4, d5, d6, hsub, hq, hlt', d7, f88_0, f88_1, f88_10, f88_11, f88_12, f19_0, f19_1, f19_10, f19_11]; done) | (simp only [go_sem, d1, r20_12, q20_0, q20_1, q20_10, q20_11, d2, hlt, hn, hneg, d3, d4, d5, d6, hsub, hq, hlt', d7, f88_0, f88_1, f88_10, f88_11, f88_12, f19_0, f19_1, f19_10, f19_11]; rfl) | (simp only [go_sem, d1, r20_12, q20_0, q20_1, q20_10, q20_11, d2, hlt, hn, hneg, d3, d4, d5, d6, hsub, hq, hlt', d7, f88_0, f88_1, f88_10, f88_11, f88_12, f19_0, f19_1, f19_10, f19_11]; rw [wrap64 (by omega) (by omega)]; first | done | rfl | (congr 1; omega))), (by first | rfl | (simp only [go_sem, d1, r20_12, q20_0, q20_1, q20_10, q20_11, d2, hlt, hn, hneg, d3, d4, d5, d6, hsub, hq, hlt', d7, f88_0, f88_1, f88_10, f88_11, f88_12, f19_0, f19_1, f19_10, f19_11]; done) | (simp only [go_sem, d1, r20_12, q20_0, q20_1, q20_10, q20_11, d2, hlt, hn, hneg, d3, d4, d5, d6, hsub, hq, hlt', d7, f88_0, f88_1, f88_10, f88_11, f88_12, f19_0, f19_1, f19_10, f19_11]; rfl) | (simp only [go_sem, d1, r20_12, q20_0, q20_1, q20_10, q20_11, d2, hlt, hn, hneg, d3, d4, d5, d6, hsub, hq, hlt', d7, f88_0, f88_1, f88_10, f88_11, f88_12, f19_0, f19_1, f19_10, f19_11]; rw [wrap64 (by omega) (by omega)]; first | done | rfl | (congr 1; omega))), (by omega), (by rw [hc, drop_at hn, clF_next hbad hord, prevF_succ hn])⟩
            · skip
              (try simp only [go_sem, d1, r20_12, q20_0, q20_1, q20_10, q20_11, d2, hlt, hn, hneg, d3, d4, d5, f71_0, f71_1, f71_5, f71_6, f71_10, f71_11, f71_12, d6])
              refine hK75 _ _ _ ?_; clear hK75 K75
              refine wpQs_guard rfl rfl fun K91 hK91 => ?_
              (try simp only [go_sem, d1, r20_12, q20_0, q20_1, q20_10, q20_11, d2, hlt, hn, hneg, d3, d4, d5, f71_0, f71_1, f71_5, f71_6, f71_10, f71_11, f71_12, d6])
              refine hK91 _ _ _ ?_; clear hK91 K91
              refine wpQs_guard rfl rfl fun K92 hK92 => ?_
              (try simp only [go_sem, d1, r20_12, q20_0, q20_1, q20_10, q20_11, d2, hlt, hn, hneg, d3, d4, d5, f71_0, f71_1, f71_5, f71_6, f71_10, f71_11, f71_12, d6])
              refine hK92 _ _ _ ?_; clear hK92 K92
              refine wpQs_guard rfl rfl fun K93 hK93 => ?_
              (try simp only [go_sem, d1, r20_12, q20_0, q20_1, q20_10, q20_11, d2, hlt, hn, hneg, d3, d4, d5, f71_0, f71_1, f71_5, f71_6, f71_10, f71_11, f71_12, d6])
              refine hK93 _ _ _ ?_; clear hK93 K93
              refine wpQs_guard rfl rfl fun K94 hK94 => ?_
              (try simp only [go_sem, d1, r20_12, q20_0, q20_1, q20_10, q20_11, d2, hlt, hn, hneg, d3, d4, d5, f71_0, f71_1, f71_5, f71_6, f71_10, f71_11, f71_12, d6])
              refine hK94 _ _ _ ?_; clear hK94 K94
              refine wpQs_guard rfl rfl fun K95 hK95 => ?_
              (try simp only [go_sem, d1, r20_12, q20_0, q20_1, q20_10, q20_11, d2, hlt, hn, hneg, d3, d4, d5, f71_0, f71_1, f71_5, f71_6, f71_10, f71_11, f71_12, d6])
              refine hK95 _ _ _ ?_; clear hK95 K95
              refine wpQs_guard rfl rfl fun K96 hK96 => ?_
              (try simp only [go_sem, d1, r20_12, q20_0, q20_1, q20_10, q20_11, d2, hlt, hn, hneg, d3, d4, d5, f71_0, f71_1, f71_5, f71_6, f71_10, f71_11, f71_12, d6])
              refine hK96 _ _ _ ?_; clear hK96 K96
              refine wpQs_guard rfl rfl fun K97 hK97 => ?_
              (try simp only [go_sem, d1, r20_12, q20_0, q20_1, q20_10, q20_11, d2, hlt, hn, hneg, d3, d4, d5, f71_0, f71_1, f71_5, f71_6, f71_10, f71_11, f71_12, d6])
              refine hK97 _ _ _ ?_; clear hK97 K97
              refine wpQs_guard rfl rfl fun K98 hK98 => ?_
              (try simp only [go_sem, d1, r20_12, q20_0, q20_1, q20_10, q20_11, d2, hlt, hn, hneg, d3, d4, d5, f71_0, f71_1, f71_5, f71_6, f71_10, f71_11, f71_12, d6])
              refine hK98 _ _ _ ?_; clear hK98 K98
              refine wpQs_step rfl fun K99 hK99 => ?_
              (try simp only [go_sem, d1, r20_12, q20_0, q20_1, q20_10, q20_11, d2, hlt, hn, hneg, d3, d4, d5, f71_0, f71_1, f71_5, f71_6, f71_10, f71_11, f71_12, d6])
              refine hK99 _ _ _ ?_; clear hK99 K99
              refine wpQs_end ?_
              refine hK70 _ _ _ ?_
              (try clear hK70 K70)
              refine wpE_condF (by simp only [go_sem, d1, r20_12, q20_0, q20_1, q20_10, q20_11, d2, hlt, hn, hneg, d3, d4, d5, f71_0, f71_1, f71_5, f71_6, f71_10, f71_11, f71_12, d6]) ?_
              refine wpE_skip ?_
              (try simp only [go_sem])
              refine hK25 _ _ _ ?_
              (try clear hK25 K25)
              -- region 10
              refine wpE_gen fun ρ100 e100 => ?_
              have f100_0 := congrFun e100 0
              (simp only [go_sem, d1, r20_12, q20_0, q20_1, q20_10, q20_11, d2, hlt, hn, hneg, d3, d4, d5, f71_0, f71_1, f71_5, f71_6, f71_10, f71_11, f71_12, d6] at f100_0)
              have f100_1 := congrFun e100 1
              (simp only [go_sem, d1, r20_12, q20_0, q20_1, q20_10, q20_11, d2, hlt, hn, hneg, d3, d4, d5, f71_0, f71_1, f71_5, f71_6, f71_10, f71_11, f71_12, d6] at f100_1)
              have f100_10 := congrFun e100 10
              (simp only [go_sem, d1, r20_12, q20_0, q20_1, q20_10, q20_11, d2, hlt, hn, hneg, d3, d4, d5, f71_0, f71_1, f71_5, f71_6, f71_10, f71_11, f71_12, d6] at f100_10)
              have f100_11 := congrFun e100 11
              (simp only [go_sem, d1, r20_12, q20_0, q20_1, q20_10, q20_11, d2, hlt, hn, hneg, d3, d4, d5, f71_0, f71_1, f71_5, f71_6, f71_10, f71_11, f71_12, d6] at f100_11)
              have f100_12 := congrFun e100 12
              (simp only [go_sem, d1, r20_12, q20_0, q20_1, q20_10, q20_11, d2, hlt, hn, hneg, d3, d4, d5, f71_0, f71_1, f71_5, f71_6, f71_10, f71_11, f71_12, d6] at f100_12)
              clear e100
              refine wpE_region ?_
              refine wpOs_step rfl fun K101 hK101 => ?_
              (try simp only [go_sem, d1, r20_12, q20_0, q20_1, q20_10, q20_11, d2, hlt, hn, hneg, d3, d4, d5, d6, f100_0, f100_1, f100_10, f100_11, f100_12])
              refine hK101 _ _ _ ?_; clear hK101 K101
              refine wpOs_step rfl fun K102 hK102 => ?_
              (try simp only [go_sem, d1, r20_12, q20_0, q20_1, q20_10, q20_11, d2, hlt, hn, hneg, d3, d4, d5, d6, f100_0, f100_1, f100_10, f100_11, f100_12])
              refine hK102 _ _ _ ?_; clear hK102 K102
              refine wpOs_end ?_
              have hbad : ¬ (n = 0 ∨ n < -vars ∨ n > vars) := by
                have a1 := of_decide_eq_false d3; have a2 := of_decide_eq_false d4; have a3 := of_decide_eq_false d5; omega
              have hord : ¬ absF n ≤ prevF l i := by
                rcases Nat.eq_zero_or_pos i with e0 | hp
                · have := (absF_pos hv hbad).2.1; rw [e0]; simp only [prevF]; omega
                · first | (rw [prevF_of hp hq]; exact of_decide_eq_false d7) | exact absurd hp (by have := of_decide_eq_false d6; omega)
              refine hK20 _ _ _ _ (by omega) ⟨i + 1, rfl, rfl, rfl, (by first | rfl | (simp only [go_sem, d1, r20_12, q20_0, q20_1, q20_10, q20_11, d2, hlt, hn, hneg, d3, d4, d5, d6, f100_0, f100_1, f100_10, f100_11, f100_12, f19_0, f19_1, f19_10, f19_11]; done) | (simp only [go_sem, d1, r20_12, q20_0, q20_1, q20_10, q20_11, d2, hlt, hn, hneg, d3, d4, d5, d6, f100_0, f100_1, f100_10, f100_11, f100_12, f19_0, f19_1, f19_10, f19_11]; rfl) | (simp only [go_sem, d1, r20_12, q20_0, q20_1, q20_10, q20_11, d2, hlt, hn, hneg, d3, d4, d5, d6, f100_0, f100_1, f100_10, f100_11, f100_12, f19_0, f19_1, f19_10, f19_11]; rw [wrap64 (by omega) (by omega)]; first | done | rfl | (congr 1; omega))), (by first | rfl | (simp only [go_sem, d1, r20_12, q20_0, q20_1, q20_10, q20_11, d2, hlt, hn, hneg, d3, d4, d5, d6, f100_0, f100_1, f100_10, f100_11, f100_12, f19_0, f19_1, f19_10, f19_11]; done) | (simp only [go_sem, d1, r20_12, q20_0, q20_1, q20_10, q20_11, d2, hlt, hn, hneg, d3, d4, d5, d6, f100_0, f100_1, f100_10, f100_11, f100_12, f19_0, f19_1, f19_10, f19_11]; rfl) | (simp only [go_sem, d1, r20_12, q20_0, q20_1, q20_10, q20_11, d2, hlt, hn, hneg, d3, d4, d5, d6, f100_0, f100_1, f100_10, f100_11, f100_12, f19_0, f19_1, f19_10, f19_11]; rw [wrap64 (by omega) (by omega)]; first | done | rfl | (congr 1; omega))), (by first | rfl | (simp only [go_sem, d1, r20_12, q20_0, q20_1, q20_10, q20_11, d2, hlt, hn, hneg, d3, d4, d5, d6, f100_0, f100_1, f100_10, f100_11, f100_12, f19_0, f19_1, f19_10, f19_11]; done) | (simp only [go_sem, d1, r20_12, q20_0, q20_1, q20_10, q20_11, d2, hlt, hn, hneg, d3, d4, d5, d6, f100_0, f100_1, f100_10, f100_11, f100_12, f19_0, f19_1, f19_10, f19_11]; rfl) | (simp only [go_sem, d1, r20_12, q20_0, q20_1, q20_10, q20_11, d2, hlt, hn, hneg, d3, d4, d5, d6, f100_0, f100_1, f100_10, f100_11, f100_12, f19_0, f19_1, f19_10, f19_11]; rw [wrap64 (by omega) (by omega)]; first | done | rfl | (congr 1; omega))), (by first | rfl | (simp only [go_sem, d1, r20_12, q20_0, q20_1, q20_10, q20_11, d2, hlt, hn, hneg, d3, d4, d5, d6, f100_0, f100_1, f100_10, f100_11, f100_12, f19_0, f19_1, f19_10, f19_11]; done) | (simp only [go_sem, d1, r20_12, q20_0, q20_1, q20_10, q20_11, d2, hlt, hn, hneg, d3, d4, d5, d6, f100_0, f100_1, f100_10, f100_11, f100_12, f19_0, f19_1, f19_10, f19_11]; rfl) | (simp only [go_sem, d1, r20_12, q20_0, q20_1, q20_10, q20_11, d2, hlt, hn, hneg, d3, d4, d5, d6, f100_0, f100_1, f100_10, f100_11, f100_12, f19_0, f19_1, f19_10, f19_11]; rw [wrap64 (by omega) (by omega)]; first | done | rfl | (congr 1; omega))), (by first | rfl | (simp only [go_sem, d1, r20_12, q20_0, q20_1, q20_10, q20_11, d2, hlt, hn, hneg, d3, d4, d5, d6, f100_0, f100_1, f100_10, f100_11, f100_12, f19_0, f19_1, f19_10, f19_11]; done) | (simp only [go_sem, d1, r20_12, q20_0, q20_1, q20_10, q20_11, d2, hlt, hn, hneg, d3, d4, d5, d6, f100_0, f100_1, f100_10, f100_11, f100_12, f19_0, f19_1, f19_10, f19_11]; rfl) | (simp only [go_sem, d1, r20_12, q20_0, q20_1, q20_10, q20_11, d2, hlt, hn, hneg, d3, d4, d5, d6, f100_0, f100_1, f100_10, f100_11, f100_12, f19_0, f19_1, f19_10, f19_11]; rw [wrap64 (by omega) (by omega)]; first | done | rfl | (congr 1; omega))), (by omega), (by rw [hc, drop_at hn, clF_next hbad hord, prevF_succ hn])⟩
    · skip
      have hge : i = l.length := by simp at d2; omega
      refine wpE_exit ?_
      (try simp only [go_sem])
      (try simp only [go_sem])
      refine hK13 _ _ _ ?_
      (try clear hK13 K13)
      refine wpE_seq fun K103 hK103 => ?_
      -- region 11
      refine wpE_gen fun ρ104 e104 => ?_
      clear e104
      refine wpE_region ?_
      refine wpOs_step rfl fun K105 hK105 => ?_
      (try simp only [go_sem, d1, r20_12, q20_0, q20_1, q20_10, q20_11, d2])
      refine hK105 _ _ _ ?_; clear hK105 K105
      refine wpOs_end ?_
      refine hK103 _ _ _ ?_
      (try clear hK103 K103)
      refine wpE_ret ?_
      (try simp only [go_sem, d1, r20_12, q20_0, q20_1, q20_10, q20_11, d2])
      refine fin_ret1 rfl ?_
      (try simp only [go_sem, d1, r20_12, q20_0, q20_1, q20_10, q20_11, d2])
      -- leaf 5
      refine told_flat (congrArg _ ?_) (by simp [FV])
      unfold clauseF; rw [if_neg (by omega), hc, hge, List.drop_length]; rfl
set_option maxHeartbeats 4000000 in
theorem refClauseErr_fun (vars : Int) (hv : 0 ≤ vars ∧ vars ≤ 400) (l : List Int) (hl0 : ∀ n ∈ l, inI64 n) : Fun Try.prog 37 [lst l, .int .i64 vars] (.int .i64 (clauseF vars l)) [] := by
  refine fun_walk (kk := 1000000) prog_ok (show Try.prog.funcs[37]? = some Try.f37 by kernel_rfl) (show Try.f37.body = some _ from rfl) (by kernel_rfl) (by show 2 ≤ _; decide) (by simp) ?_
  refine wpE_seq fun K1 hK1 => ?_
  -- region 0
  refine wpE_gen fun ρ2 e2 => ?_
  have f2_0 := congrFun e2 0
  (simp only [go_sem] at f2_0)
  have f2_1 := congrFun e2 1
  (simp only [go_sem] at f2_1)
  clear e2
  refine wpE_region ?_
  refine wpOs_step rfl fun K3 hK3 => ?_
  (try simp only [go_sem, f2_0, f2_1])
  refine hK3 _ _ _ ?_; clear hK3 K3
  refine wpOs_end ?_
  refine hK1 _ _ _ ?_
  (try clear hK1 K1)
  refine wpE_seq fun K4 hK4 => ?_
  refine wpE_seq fun K5 hK5 => ?_
  -- region 1
  refine wpE_gen fun ρ6 e6 => ?_
  have f6_0 := congrFun e6 0
  (simp only [go_sem, f2_0, f2_1] at f6_0)
  have f6_1 := congrFun e6 1
  (simp only [go_sem, f2_0, f2_1] at f6_1)
  clear e6
  refine wpE_region ?_
  refine wpOs_step rfl fun K7 hK7 => ?_
  (try simp only [go_sem, f6_0, f6_1])
  refine hK7 _ _ _ ?_; clear hK7 K7
  refine wpOs_step rfl fun K8 hK8 => ?_
  (try simp only [go_sem, f6_0, f6_1])
  refine hK8 _ _ _ ?_; clear hK8 K8
  refine wpOs_step rfl fun K9 hK9 => ?_
  (try simp only [go_sem, f6_0, f6_1])
  refine hK9 _ _ _ ?_; clear hK9 K9
  refine wpOs_end ?_
  refine hK5 _ _ _ ?_
  (try clear hK5 K5)
  refine wpE_cond' ?_
  (try simp only [go_sem, f6_0, f6_1])
  refine branch_by (fun d1 => ?_) (fun d1 => ?_)
  · skip
    refine wpE_seq fun K10 hK10 => ?_
    -- region 2
    refine wpE_gen fun ρ11 e11 => ?_
    clear e11
    refine wpE_region ?_
    refine wpOs_step rfl fun K12 hK12 => ?_
    (try simp only [go_sem, d1])
    refine hK12 _ _ _ ?_; clear hK12 K12
    refine wpOs_end ?_
    refine hK10 _ _ _ ?_
    (try clear hK10 K10)
    refine wpE_ret ?_
    (try simp only [go_sem, d1])
    refine fin_ret1 rfl ?_
    (try simp only [go_sem, d1])
    -- leaf 0
    refine told_flat (congrArg _ ?_) (by simp [FV])
    unfold clauseF; rw [if_pos (by have := of_decide_eq_true d1; omega)]
  · skip
    have hlen : l.length ≤ 40 := by simp at d1; omega
    refine wpE_skip ?_
    (try simp only [go_sem])
    refine hK4 _ _ _ ?_
    (try clear hK4 K4)
    refine wpE_seq fun K13 hK13 => ?_
    -- region 3
    refine wpE_gen fun ρ14 e14 => ?_
    have f14_0 := congrFun e14 0
    (simp only [go_sem, f6_0, f6_1, d1] at f14_0)
    have f14_1 := congrFun e14 1
    (simp only [go_sem, f6_0, f6_1, d1] at f14_1)
    clear e14
    refine wpE_region ?_
    refine wpOs_step rfl fun K15 hK15 => ?_
    (try simp only [go_sem, d1, f14_0, f14_1])
    refine hK15 _ _ _ ?_; clear hK15 K15
    refine wpOs_end ?_
    refine hK13 _ _ _ ?_
    (try clear hK13 K13)
    refine wpE_seq fun K16 hK16 => ?_
    refine wpE_seq fun K17 hK17 => ?_
    -- region 4
    refine wpE_gen fun ρ18 e18 => ?_
    have f18_0 := congrFun e18 0
    (simp only [go_sem, d1, f14_0, f14_1] at f18_0)
    have f18_1 := congrFun e18 1
    (simp only [go_sem, d1, f14_0, f14_1] at f18_1)
    have f18_5 := congrFun e18 5
    (simp only [go_sem, d1, f14_0, f14_1] at f18_5)
    clear e18
    refine wpE_region ?_
    refine wpOs_step rfl fun K19 hK19 => ?_
    (try simp only [go_sem, d1, f18_0, f18_1, f18_5])
    refine hK19 _ _ _ ?_; clear hK19 K19
    refine wpOs_end ?_
    refine hK17 _ _ _ ?_
    (try clear hK17 K17)
    refine wpE_block ?_
    refine wpE_gen fun ρ20 e20 => ?_
    have f20_0 := congrFun e20 0
    (simp only [go_sem, d1, f18_0, f18_1, f18_5] at f20_0)
    have f20_1 := congrFun e20 1
    (simp only [go_sem, d1, f18_0, f18_1, f18_5] at f20_1)
    have f20_5 := congrFun e20 5
    (simp only [go_sem, d1, f18_0, f18_1, f18_5] at f20_5)
    have f20_6 := congrFun e20 6
    (simp only [go_sem, d1, f18_0, f18_1, f18_5] at f20_6)
    clear e20
    refine wpE_loop (fun m ρ df g => ∃ i : Nat, m = l.length - i ∧ df = [] ∧ g = hL [] ∧ ρ 5 = .int .i64 (prevF l i) ∧ ρ 6 = .int .i64 (i : Nat) ∧ ρ 0 = ρ20 0 ∧ ρ 1 = ρ20 1 ∧ i ≤ l.length ∧ clF vars 0 l = clF vars (prevF l i) (l.drop i)) (l.length) (by omega) ⟨0, rfl, rfl, rfl, (by first | rfl | (simp only [go_sem, d1, f20_0, f20_1, f20_5, f20_6]; done) | (simp only [go_sem, d1, f20_0, f20_1, f20_5, f20_6]; rfl)), (by first | rfl | (simp only [go_sem, d1, f20_0, f20_1, f20_5, f20_6]; done) | (simp only [go_sem, d1, f20_0, f20_1, f20_5, f20_6]; rfl)), rfl, rfl, (by omega), (by rfl)⟩ ?_
    rintro m21 K21 hK21 ρ df g ⟨i, hm21, rfl, rfl, r21_5, r21_6, q21_0, q21_1, hi, hc⟩
    replace q21_0 := q21_0.trans f20_0
    replace q21_1 := q21_1.trans f20_1
    refine wpE_seq fun K22 hK22 => ?_
    refine wpE_seq fun K23 hK23 => ?_
    -- region 5
    refine wpE_gen fun ρ24 e24 => ?_
    have f24_0 := congrFun e24 0
    (simp only [go_sem, d1, r21_5, r21_6, q21_0, q21_1] at f24_0)
    have f24_1 := congrFun e24 1
    (simp only [go_sem, d1, r21_5, r21_6, q21_0, q21_1] at f24_1)
    have f24_5 := congrFun e24 5
    (simp only [go_sem, d1, r21_5, r21_6, q21_0, q21_1] at f24_5)
    have f24_6 := congrFun e24 6
    (simp only [go_sem, d1, r21_5, r21_6, q21_0, q21_1] at f24_6)
    clear e24
    refine wpE_region ?_
    refine wpOs_step rfl fun K25 hK25 => ?_
    (try simp only [go_sem, d1, r21_5, r21_6, q21_0, q21_1, f24_0, f24_1, f24_5, f24_6])
    refine hK25 _ _ _ ?_; clear hK25 K25
    refine wpOs_step rfl fun K26 hK26 => ?_
    (try simp only [go_sem, d1, r21_5, r21_6, q21_0, q21_1, f24_0, f24_1, f24_5, f24_6])
    refine hK26 _ _ _ ?_; clear hK26 K26
    refine wpOs_step rfl fun K27 hK27 => ?_
    (try simp only [go_sem, d1, r21_5, r21_6, q21_0, q21_1, f24_0, f24_1, f24_5, f24_6])
    refine hK27 _ _ _ ?_; clear hK27 K27
    refine wpOs_step rfl fun K28 hK28 => ?_
    (try simp only [go_sem, d1, r21_5, r21_6, q21_0, q21_1, f24_0, f24_1, f24_5, f24_6])
    refine hK28 _ _ _ ?_; clear hK28 K28
    refine wpOs_end ?_
    refine hK23 _ _ _ ?_
    (try clear hK23 K23)
    refine wpE_cond' ?_
    (try simp only [go_sem, d1, r21_5, r21_6, q21_0, q21_1, f24_0, f24_1, f24_5, f24_6])
    refine branch_by (fun d2 => ?_) (fun d2 => ?_)
    · skip
      have hlt : i < l.length := by simpa using d2
      obtain ⟨n, hn⟩ := has_at hlt
      have hnI : inI64 n := hl0 n (List.mem_iff_getElem?.2 ⟨i, hn⟩)
      refine wpE_skip ?_
      (try simp only [go_sem])
      refine hK22 _ _ _ ?_
      (try clear hK22 K22)
      refine wpE_seq fun K29 hK29 => ?_
      refine wpE_block ?_
      refine wpE_seq fun K30 hK30 => ?_
      refine wpE_seq fun K31 hK31 => ?_
      -- region 7
      have hneg : IntKind.i64.wrap (0 - vars) = -vars := by rw [wrap64 (by omega) (by omega)]; omega
      refine wpE_gen fun ρ32 e32 => ?_
      have f32_0 := congrFun e32 0
      (simp only [go_sem, d1, r21_5, r21_6, q21_0, q21_1, f24_0, f24_1, f24_5, f24_6, d2, hlt, hn, hneg] at f32_0)
      have f32_1 := congrFun e32 1
      (simp only [go_sem, d1, r21_5, r21_6, q21_0, q21_1, f24_0, f24_1, f24_5, f24_6, d2, hlt, hn, hneg] at f32_1)
      have f32_5 := congrFun e32 5
      (simp only [go_sem, d1, r21_5, r21_6, q21_0, q21_1, f24_0, f24_1, f24_5, f24_6, d2, hlt, hn, hneg] at f32_5)
      have f32_6 := congrFun e32 6
      (simp only [go_sem, d1, r21_5, r21_6, q21_0, q21_1, f24_0, f24_1, f24_5, f24_6, d2, hlt, hn, hneg] at f32_6)
      clear e32
      refine wpE_region ?_
      refine wpOs_step rfl fun K33 hK33 => ?_
      (try simp only [go_sem, d1, r21_5, r21_6, q21_0, q21_1, d2, hlt, hn, hneg, f32_0, f32_1, f32_5, f32_6])
      refine hK33 _ _ _ ?_; clear hK33 K33
      refine wpOs_step rfl fun K34 hK34 => ?_
      (try simp only [go_sem, d1, r21_5, r21_6, q21_0, q21_1, d2, hlt, hn, hneg, f32_0, f32_1, f32_5, f32_6])
      refine hK34 _ _ _ ?_; clear hK34 K34
      refine wpOs_step rfl fun K35 hK35 => ?_
      (try simp only [go_sem, d1, r21_5, r21_6, q21_0, q21_1, d2, hlt, hn, hneg, f32_0, f32_1, f32_5, f32_6])
      refine hK35 _ _ _ ?_; clear hK35 K35
      refine wpOs_step rfl fun K36 hK36 => ?_
      (try simp only [go_sem, d1, r21_5, r21_6, q21_0, q21_1, d2, hlt, hn, hneg, f32_0, f32_1, f32_5, f32_6])
      refine hK36 _ _ _ ?_; clear hK36 K36
      refine wpOs_step rfl fun K37 hK37 => ?_
      (try simp only [go_sem, d1, r21_5, r21_6, q21_0, q21_1, d2, hlt, hn, hneg, f32_0, f32_1, f32_5, f32_6])
      refine hK37 _ _ _ ?_; clear hK37 K37
      refine wpOs_step rfl fun K38 hK38 => ?_
      (try simp only [go_sem, d1, r21_5, r21_6, q21_0, q21_1, d2, hlt, hn, hneg, f32_0, f32_1, f32_5, f32_6])
      refine hK38 _ _ _ ?_; clear hK38 K38
      refine wpOs_guard rfl rfl fun K39 hK39 => ?_
      (try simp only [go_sem, d1, r21_5, r21_6, q21_0, q21_1, d2, hlt, hn, hneg, f32_0, f32_1, f32_5, f32_6])
      refine branch_by (fun d3 => ?_) (fun d3 => ?_)
      · skip
        (try simp only [go_sem, d1, r21_5, r21_6, q21_0, q21_1, d2, hlt, hn, hneg, f32_0, f32_1, f32_5, f32_6, d3])
        refine hK39 _ _ _ ?_; clear hK39 K39
        refine wpOs_guard rfl rfl fun K40 hK40 => ?_
        (try simp only [go_sem, d1, r21_5, r21_6, q21_0, q21_1, d2, hlt, hn, hneg, f32_0, f32_1, f32_5, f32_6, d3])
        refine hK40 _ _ _ ?_; clear hK40 K40
        refine wpOs_guard rfl rfl fun K41 hK41 => ?_
        (try simp only [go_sem, d1, r21_5, r21_6, q21_0, q21_1, d2, hlt, hn, hneg, f32_0, f32_1, f32_5, f32_6, d3])
        refine hK41 _ _ _ ?_; clear hK41 K41
        refine wpOs_guard rfl rfl fun K42 hK42 => ?_
        (try simp only [go_sem, d1, r21_5, r21_6, q21_0, q21_1, d2, hlt, hn, hneg, f32_0, f32_1, f32_5, f32_6, d3])
        refine hK42 _ _ _ ?_; clear hK42 K42
        refine wpOs_guard rfl rfl fun K43 hK43 => ?_
        (try simp only [go_sem, d1, r21_5, r21_6, q21_0, q21_1, d2, hlt, hn, hneg, f32_0, f32_1, f32_5, f32_6, d3])
        refine hK43 _ _ _ ?_; clear hK43 K43
        refine wpOs_guard rfl rfl fun K44 hK44 => ?_
        (try simp only [go_sem, d1, r21_5, r21_6, q21_0, q21_1, d2, hlt, hn, hneg, f32_0, f32_1, f32_5, f32_6, d3])
        refine hK44 _ _ _ ?_; clear hK44 K44
        refine wpOs_guard rfl rfl fun K45 hK45 => ?_
        (try simp only [go_sem, d1, r21_5, r21_6, q21_0, q21_1, d2, hlt, hn, hneg, f32_0, f32_1, f32_5, f32_6, d3])
        refine hK45 _ _ _ ?_; clear hK45 K45
        refine wpOs_guard rfl rfl fun K46 hK46 => ?_
        (try simp only [go_sem, d1, r21_5, r21_6, q21_0, q21_1, d2, hlt, hn, hneg, f32_0, f32_1, f32_5, f32_6, d3])
        refine hK46 _ _ _ ?_; clear hK46 K46
        refine wpOs_guard rfl rfl fun K47 hK47 => ?_
        (try simp only [go_sem, d1, r21_5, r21_6, q21_0, q21_1, d2, hlt, hn, hneg, f32_0, f32_1, f32_5, f32_6, d3])
        refine hK47 _ _ _ ?_; clear hK47 K47
        refine wpOs_step rfl fun K48 hK48 => ?_
        (try simp only [go_sem, d1, r21_5, r21_6, q21_0, q21_1, d2, hlt, hn, hneg, f32_0, f32_1, f32_5, f32_6, d3])
        refine hK48 _ _ _ ?_; clear hK48 K48
        refine wpOs_end ?_
        refine hK31 _ _ _ ?_
        (try clear hK31 K31)
        refine wpE_condT (by simp only [go_sem, d1, r21_5, r21_6, q21_0, q21_1, d2, hlt, hn, hneg, f32_0, f32_1, f32_5, f32_6, d3]) ?_
        refine wpE_seq fun K49 hK49 => ?_
        -- region 8
        refine wpE_gen fun ρ50 e50 => ?_
        clear e50
        refine wpE_region ?_
        refine wpOs_step rfl fun K51 hK51 => ?_
        (try simp only [go_sem, d1, r21_5, r21_6, q21_0, q21_1, d2, hlt, hn, hneg, d3])
        refine hK51 _ _ _ ?_; clear hK51 K51
        refine wpOs_end ?_
        refine hK49 _ _ _ ?_
        (try clear hK49 K49)
        refine wpE_ret ?_
        (try simp only [go_sem, d1, r21_5, r21_6, q21_0, q21_1, d2, hlt, hn, hneg, d3])
        refine fin_ret1 rfl ?_
        (try simp only [go_sem, d1, r21_5, r21_6, q21_0, q21_1, d2, hlt, hn, hneg, d3])
        -- leaf 1
        refine told_flat (congrArg _ ?_) (by simp [FV])
        unfold clauseF; rw [if_neg (by omega), hc, drop_at hn, clF_bad (.inl (of_decide_eq_true d3))]
      · skip
        (try simp only [go_sem, d1, r21_5, r21_6, q21_0, q21_1, d2, hlt, hn, hneg, f32_0, f32_1, f32_5, f32_6, d3])
        refine hK39 _ _ _ ?_; clear hK39 K39
        refine wpOs_guard rfl rfl fun K52 hK52 => ?_
        (try simp only [go_sem, d1, r21_5, r21_6, q21_0, q21_1, d2, hlt, hn, hneg, f32_0, f32_1, f32_5, f32_6, d3])
        refine hK52 _ _ _ ?_; clear hK52 K52
        refine wpOs_guard rfl rfl fun K53 hK53 => ?_
        (try simp only [go_sem, d1, r21_5, r21_6, q21_0, q21_1, d2, hlt, hn, hneg, f32_0, f32_1, f32_5, f32_6, d3])
        refine hK53 _ _ _ ?_; clear hK53 K53
        refine wpOs_guard rfl rfl fun K54 hK54 => ?_
        (try simp only [go_sem, d1, r21_5, r21_6, q21_0, q21_1, d2, hlt, hn, hneg, f32_0, f32_1, f32_5, f32_6, d3])
        refine hK54 _ _ _ ?_; clear hK54 K54
        refine wpOs_guard rfl rfl fun K55 hK55 => ?_
        (try simp only [go_sem, d1, r21_5, r21_6, q21_0, q21_1, d2, hlt, hn, hneg, f32_0, f32_1, f32_5, f32_6, d3])
        refine hK55 _ _ _ ?_; clear hK55 K55
        refine wpOs_guard rfl rfl fun K56 hK56 => ?_
        (try simp only [go_sem, d1, r21_5, r21_6, q21_0, q21_1, d2, hlt, hn, hneg, f32_0, f32_1, f32_5, f32_6, d3])
        refine hK56 _ _ _ ?_; clear hK56 K56
        refine wpOs_guard rfl rfl fun K57 hK57 => ?_
        (try simp only [go_sem, d1, r21_5, r21_6, q21_0, q21_1, d2, hlt, hn, hneg, f32_0, f32_1, f32_5, f32_6, d3])
        refine hK57 _ _ _ ?_; clear hK57 K57
        refine wpOs_guard rfl rfl fun K58 hK58 => ?_
        (try simp only [go_sem, d1, r21_5, r21_6, q21_0, q21_1, d2, hlt, hn, hneg, f32_0, f32_1, f32_5, f32_6, d3])
        refine call_fun (between_fun _ _ _) rfl rfl (fun _ => rfl) ?_
        (try simp only [go_sem, d1, r21_5, r21_6, q21_0, q21_1, d2, hlt, hn, hneg, f32_0, f32_1, f32_5, f32_6, d3])
        refine hK58 _ _ _ ?_; clear hK58 K58
        refine wpOs_guard rfl rfl fun K59 hK59 => ?_
        (try simp only [go_sem, d1, r21_5, r21_6, q21_0, q21_1, d2, hlt, hn, hneg, f32_0, f32_1, f32_5, f32_6, d3])
        refine hK59 _ _ _ ?_; clear hK59 K59
        refine wpOs_step rfl fun K60 hK60 => ?_
        (try simp only [go_sem, d1, r21_5, r21_6, q21_0, q21_1, d2, hlt, hn, hneg, f32_0, f32_1, f32_5, f32_6, d3])
        refine hK60 _ _ _ ?_; clear hK60 K60
        refine wpOs_end ?_
        refine hK31 _ _ _ ?_
        (try clear hK31 K31)
        refine wpE_cond' ?_
        (try simp only [go_sem, d1, r21_5, r21_6, q21_0, q21_1, d2, hlt, hn, hneg, f32_0, f32_1, f32_5, f32_6, d3])
        refine branch_by (fun d4 => ?_) (fun d4 => ?_)
        · skip
          refine wpE_seq fun K61 hK61 => ?_
          -- region 8
          refine wpE_gen fun ρ62 e62 => ?_
          clear e62
          refine wpE_region ?_
          refine wpOs_step rfl fun K63 hK63 => ?_
          (try simp only [go_sem, d1, r21_5, r21_6, q21_0, q21_1, d2, hlt, hn, hneg, d3, d4])
          refine hK63 _ _ _ ?_; clear hK63 K63
          refine wpOs_end ?_
          refine hK61 _ _ _ ?_
          (try clear hK61 K61)
          refine wpE_ret ?_
          (try simp only [go_sem, d1, r21_5, r21_6, q21_0, q21_1, d2, hlt, hn, hneg, d3, d4])
          refine fin_ret1 rfl ?_
          (try simp only [go_sem, d1, r21_5, r21_6, q21_0, q21_1, d2, hlt, hn, hneg, d3, d4])
          -- leaf 2
          refine told_flat (congrArg _ ?_) (by simp [FV])
          unfold clauseF; rw [if_neg (by omega), hc, drop_at hn, clF_bad]
          have a2 := of_decide_eq_false (by simpa only [Bool.not_eq_true'] using d4); omega
        · skip
          refine wpE_skip ?_
          (try simp only [go_sem])
          refine hK30 _ _ _ ?_
          (try clear hK30 K30)
          refine wpE_seq fun K64 hK64 => ?_
          refine wpE_seq fun K65 hK65 => ?_
          -- region 9
          refine wpE_gen fun ρ66 e66 => ?_
          have f66_0 := congrFun e66 0
          (simp only [go_sem, d1, r21_5, r21_6, q21_0, q21_1, d2, hlt, hn, hneg, f32_0, f32_1, f32_5, f32_6, d3, d4] at f66_0)
          have f66_1 := congrFun e66 1
          (simp only [go_sem, d1, r21_5, r21_6, q21_0, q21_1, d2, hlt, hn, hneg, f32_0, f32_1, f32_5, f32_6, d3, d4] at f66_1)
          have f66_5 := congrFun e66 5
          (simp only [go_sem, d1, r21_5, r21_6, q21_0, q21_1, d2, hlt, hn, hneg, f32_0, f32_1, f32_5, f32_6, d3, d4] at f66_5)
          have f66_6 := congrFun e66 6
          (simp only [go_sem, d1, r21_5, r21_6, q21_0, q21_1, d2, hlt, hn, hneg, f32_0, f32_1, f32_5, f32_6, d3, d4] at f66_6)
          clear e66
          refine wpE_region ?_
          refine wpOs_step rfl fun K67 hK67 => ?_
          (try simp only [go_sem, d1, r21_5, r21_6, q21_0, q21_1, d2, hlt, hn, hneg, d3, d4, f66_0, f66_1, f66_5, f66_6])
          refine hK67 _ _ _ ?_; clear hK67 K67
          refine wpOs_step rfl fun K68 hK68 => ?_
          (try simp only [go_sem, d1, r21_5, r21_6, q21_0, q21_1, d2, hlt, hn, hneg, d3, d4, f66_0, f66_1, f66_5, f66_6])
          refine hK68 _ _ _ ?_; clear hK68 K68
          refine wpOs_step rfl fun K69 hK69 => ?_
          (try simp only [go_sem, d1, r21_5, r21_6, q21_0, q21_1, d2, hlt, hn, hneg, d3, d4, f66_0, f66_1, f66_5, f66_6])
          refine hK69 _ _ _ ?_; clear hK69 K69
          refine wpOs_step rfl fun K70 hK70 => ?_
          (try simp only [go_sem, d1, r21_5, r21_6, q21_0, q21_1, d2, hlt, hn, hneg, d3, d4, f66_0, f66_1, f66_5, f66_6])
          refine hK70 _ _ _ ?_; clear hK70 K70
          refine wpOs_step rfl fun K71 hK71 => ?_
          (try simp only [go_sem, d1, r21_5, r21_6, q21_0, q21_1, d2, hlt, hn, hneg, d3, d4, f66_0, f66_1, f66_5, f66_6])
          refine call_fun (abs_fun _) rfl rfl (fun _ => rfl) ?_
          (try simp only [go_sem, d1, r21_5, r21_6, q21_0, q21_1, d2, hlt, hn, hneg, d3, d4, f66_0, f66_1, f66_5, f66_6])
          refine hK71 _ _ _ ?_; clear hK71 K71
          refine wpOs_step rfl fun K72 hK72 => ?_
          (try simp only [go_sem, d1, r21_5, r21_6, q21_0, q21_1, d2, hlt, hn, hneg, d3, d4, f66_0, f66_1, f66_5, f66_6])
          refine hK72 _ _ _ ?_; clear hK72 K72
          refine wpOs_step rfl fun K73 hK73 => ?_
          (try simp only [go_sem, d1, r21_5, r21_6, q21_0, q21_1, d2, hlt, hn, hneg, d3, d4, f66_0, f66_1, f66_5, f66_6])
          refine hK73 _ _ _ ?_; clear hK73 K73
          refine wpOs_end ?_
          refine hK65 _ _ _ ?_
          (try clear hK65 K65)
          refine wpE_cond' ?_
          (try simp only [go_sem, d1, r21_5, r21_6, q21_0, q21_1, d2, hlt, hn, hneg, d3, d4, f66_0, f66_1, f66_5, f66_6])
          refine branch_by (fun d5 => ?_) (fun d5 => ?_)
          · skip
            refine wpE_seq fun K74 hK74 => ?_
            -- region 10
            refine wpE_gen fun ρ75 e75 => ?_
            clear e75
            refine wpE_region ?_
            refine wpOs_step rfl fun K76 hK76 => ?_
            (try simp only [go_sem, d1, r21_5, r21_6, q21_0, q21_1, d2, hlt, hn, hneg, d3, d4, d5])
            refine hK76 _ _ _ ?_; clear hK76 K76
            refine wpOs_end ?_
            refine hK74 _ _ _ ?_
            (try clear hK74 K74)
            refine wpE_ret ?_
            (try simp only [go_sem, d1, r21_5, r21_6, q21_0, q21_1, d2, hlt, hn, hneg, d3, d4, d5])
            refine fin_ret1 rfl ?_
            (try simp only [go_sem, d1, r21_5, r21_6, q21_0, q21_1, d2, hlt, hn, hneg, d3, d4, d5])
            -- leaf 3
            refine told_flat (congrArg _ ?_) (by simp [FV])
            unfold clauseF; rw [if_neg (by omega), hc, drop_at hn, clF_ord]
            · have a1 := of_decide_eq_false d3; have a2 := of_decide_eq_true (by simpa only [Bool.not_eq_false'] using d4); omega
            · exact of_decide_eq_true d5
          · skip
            refine wpE_skip ?_
            (try simp only [go_sem])
            refine hK64 _ _ _ ?_
            (try clear hK64 K64)
            -- region 11
            refine wpE_gen fun ρ77 e77 => ?_
            have f77_0 := congrFun e77 0
            (simp only [go_sem, d1, r21_5, r21_6, q21_0, q21_1, d2, hlt, hn, hneg, d3, d4, f66_0, f66_1, f66_5, f66_6, d5] at f77_0)
            have f77_1 := congrFun e77 1
            (simp only [go_sem, d1, r21_5, r21_6, q21_0, q21_1, d2, hlt, hn, hneg, d3, d4, f66_0, f66_1, f66_5, f66_6, d5] at f77_1)
            have f77_6 := congrFun e77 6
            (simp only [go_sem, d1, r21_5, r21_6, q21_0, q21_1, d2, hlt, hn, hneg, d3, d4, f66_0, f66_1, f66_5, f66_6, d5] at f77_6)
            clear e77
            refine wpE_region ?_
            refine wpOs_step rfl fun K78 hK78 => ?_
            (try simp only [go_sem, d1, r21_5, r21_6, q21_0, q21_1, d2, hlt, hn, hneg, d3, d4, d5, f77_0, f77_1, f77_6])
            refine hK78 _ _ _ ?_; clear hK78 K78
            refine wpOs_step rfl fun K79 hK79 => ?_
            (try simp only [go_sem, d1, r21_5, r21_6, q21_0, q21_1, d2, hlt, hn, hneg, d3, d4, d5, f77_0, f77_1, f77_6])
            refine hK79 _ _ _ ?_; clear hK79 K79
            refine wpOs_step rfl fun K80 hK80 => ?_
            (try simp only [go_sem, d1, r21_5, r21_6, q21_0, q21_1, d2, hlt, hn, hneg, d3, d4, d5, f77_0, f77_1, f77_6])
            refine hK80 _ _ _ ?_; clear hK80 K80
            refine wpOs_step rfl fun K81 hK81 => ?_
            (try simp only [go_sem, d1, r21_5, r21_6, q21_0, q21_1, d2, hlt, hn, hneg, d3, d4, d5, f77_0, f77_1, f77_6])
            refine hK81 _ _ _ ?_; clear hK81 K81
            refine wpOs_step rfl fun K82 hK82 => ?_
            (try simp only [go_sem, d1, r21_5, r21_6, q21_0, q21_1, d2, hlt, hn, hneg, d3, d4, d5, f77_0, f77_1, f77_6])
            refine call_fun (abs_fun _) rfl rfl (fun _ => rfl) ?_
            (try simp only [go_sem, d1, r21_5, r21_6, q21_0, q21_1, d2, hlt, hn, hneg, d3, d4, d5, f77_0, f77_1, f77_6])
            refine hK82 _ _ _ ?_; clear hK82 K82
            refine wpOs_step rfl fun K83 hK83 => ?_
            (try simp only [go_sem, d1, r21_5, r21_6, q21_0, q21_1, d2, hlt, hn, hneg, d3, d4, d5, f77_0, f77_1, f77_6])
            refine hK83 _ _ _ ?_; clear hK83 K83
            refine wpOs_end ?_
            refine hK29 _ _ _ ?_
            (try clear hK29 K29)
            -- region 6
            refine wpE_gen fun ρ84 e84 => ?_
            have f84_0 := congrFun e84 0
            (simp only [go_sem, d1, r21_5, r21_6, q21_0, q21_1, d2, hlt, hn, hneg, d3, d4, d5, f77_0, f77_1, f77_6] at f84_0)
            have f84_1 := congrFun e84 1
            (simp only [go_sem, d1, r21_5, r21_6, q21_0, q21_1, d2, hlt, hn, hneg, d3, d4, d5, f77_0, f77_1, f77_6] at f84_1)
            have f84_5 := congrFun e84 5
            (simp only [go_sem, d1, r21_5, r21_6, q21_0, q21_1, d2, hlt, hn, hneg, d3, d4, d5, f77_0, f77_1, f77_6] at f84_5)
            have f84_6 := congrFun e84 6
            (simp only [go_sem, d1, r21_5, r21_6, q21_0, q21_1, d2, hlt, hn, hneg, d3, d4, d5, f77_0, f77_1, f77_6] at f84_6)
            clear e84
            refine wpE_region ?_
            refine wpOs_step rfl fun K85 hK85 => ?_
            (try simp only [go_sem, d1, r21_5, r21_6, q21_0, q21_1, d2, hlt, hn, hneg, d3, d4, d5, f84_0, f84_1, f84_5, f84_6])
            refine hK85 _ _ _ ?_; clear hK85 K85
            refine wpOs_step rfl fun K86 hK86 => ?_
            (try simp only [go_sem, d1, r21_5, r21_6, q21_0, q21_1, d2, hlt, hn, hneg, d3, d4, d5, f84_0, f84_1, f84_5, f84_6])
            refine hK86 _ _ _ ?_; clear hK86 K86
            refine wpOs_step rfl fun K87 hK87 => ?_
            (try simp only [go_sem, d1, r21_5, r21_6, q21_0, q21_1, d2, hlt, hn, hneg, d3, d4, d5, f84_0, f84_1, f84_5, f84_6])
            refine hK87 _ _ _ ?_; clear hK87 K87
            refine wpOs_end ?_
            have hbad : ¬ (n = 0 ∨ n < -vars ∨ n > vars) := by
              have a1 := of_decide_eq_false d3; have a2 := of_decide_eq_true (by simpa only [Bool.not_eq_false'] using d4); omega
            have hord : ¬ absF n ≤ prevF l i := of_decide_eq_false d5
            have hpn := prevF_succ hn
            refine hK21 _ _ _ _ (by omega) ⟨i + 1, rfl, rfl, rfl, (by first | rfl | (simp only [go_sem, d1, r21_5, r21_6, q21_0, q21_1, d2, hlt, hn, hneg, d3, d4, d5, f84_0, f84_1, f84_5, f84_6, f20_0, f20_1, hpn]; done) | (simp only [go_sem, d1, r21_5, r21_6, q21_0, q21_1, d2, hlt, hn, hneg, d3, d4, d5, f84_0, f84_1, f84_5, f84_6, f20_0, f20_1, hpn]; rfl) | (simp only [go_sem, d1, r21_5, r21_6, q21_0, q21_1, d2, hlt, hn, hneg, d3, d4, d5, f84_0, f84_1, f84_5, f84_6, f20_0, f20_1, hpn]; rw [wrap64 (by omega) (by omega)]; first | done | rfl | (congr 1; omega))), (by first | rfl | (simp only [go_sem, d1, r21_5, r21_6, q21_0, q21_1, d2, hlt, hn, hneg, d3, d4, d5, f84_0, f84_1, f84_5, f84_6, f20_0, f20_1, hpn]; done) | (simp only [go_sem, d1, r21_5, r21_6, q21_0, q21_1, d2, hlt, hn, hneg, d3, d4, d5, f84_0, f84_1, f84_5, f84_6, f20_0, f20_1, hpn]; rfl) | (simp only [go_sem, d1, r21_5, r21_6, q21_0, q21_1, d2, hlt, hn, hneg, d3, d4, d5, f84_0, f84_1, f84_5, f84_6, f20_0, f20_1, hpn]; rw [wrap64 (by omega) (by omega)]; first | done | rfl | (congr 1; omega))), (by first | rfl | (simp only [go_sem, d1, r21_5, r21_6, q21_0, q21_1, d2, hlt, hn, hneg, d3, d4, d5, f84_0, f84_1, f84_5, f84_6, f20_0, f20_1, hpn]; done) | (simp only [go_sem, d1, r21_5, r21_6, q21_0, q21_1, d2, hlt, hn, hneg, d3, d4, d5, f84_0, f84_1, f84_5, f84_6, f20_0, f20_1, hpn]; rfl) | (simp only [go_sem, d1, r21_5, r21_6, q21_0, q21_1, d2, hlt, hn, hneg, d3, d4, d5, f84_0, f84_1, f84_5, f84_6, f20_0, f20_1, hpn]; rw [wrap64 (by omega) (by omega)]; first | done | rfl | (congr 1; omega))), (by first | rfl | (simp only [go_sem, d1, r21_5, r21_6, q21_0, q21_1, d2, hlt, hn, hneg, d3, d4, d5, f84_0, f84_1, f84_5, f84_6, f20_0, f20_1, hpn]; done) | (simp only [go_sem, d1, r21_5, r21_6, q21_0, q21_1, d2, hlt, hn, hneg, d3, d4, d5, f84_0, f84_1, f84_5, f84_6, f20_0, f20_1, hpn]; rfl) | (simp only [go_sem, d1, r21_5, r21_6, q21_0, q21_1, d2, hlt, hn, hneg, d3, d4, d5, f84_0, f84_1, f84_5, f84_6, f20_0, f20_1, hpn]; rw [wrap64 (by omega) (by omega)]; first | done | rfl | (congr 1; omega))), (by omega), (by rw [hc, drop_at hn, clF_next hbad hord, prevF_succ hn])⟩
    · skip
      have hge : i = l.length := by simp at d2; omega
      refine wpE_exit ?_
      (try simp only [go_sem])
      (try simp only [go_sem])
      refine hK16 _ _ _ ?_
      (try clear hK16 K16)
      refine wpE_seq fun K88 hK88 => ?_
      -- region 12
      refine wpE_gen fun ρ89 e89 => ?_
      clear e89
      refine wpE_region ?_
      refine wpOs_step rfl fun K90 hK90 => ?_
      (try simp only [go_sem, d1, r21_5, r21_6, q21_0, q21_1, d2])
      refine hK90 _ _ _ ?_; clear hK90 K90
      refine wpOs_end ?_
      refine hK88 _ _ _ ?_
      (try clear hK88 K88)
      refine wpE_ret ?_
      (try simp only [go_sem, d1, r21_5, r21_6, q21_0, q21_1, d2])
      refine fin_ret1 rfl ?_
      (try simp only [go_sem, d1, r21_5, r21_6, q21_0, q21_1, d2])
      -- leaf 4
      refine told_flat (congrArg _ ?_) (by simp [FV])
      unfold clauseF; rw [if_neg (by omega), hc, hge, List.drop_length]; rfl
end Go.Ai
