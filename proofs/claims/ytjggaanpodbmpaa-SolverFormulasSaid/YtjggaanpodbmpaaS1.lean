/- Small functions of the solver's statements: what they answer. -/
import Derived.Test.YtjggaanpodbmpaaTy
namespace Go.Ai
open Go.Proofs
set_option linter.unusedVariables false
set_option linter.unusedSimpArgs false

theorem FVs.nl {h : AH} {κ : Nat → Option Nat} {any d : Bool} : FVs h κ any d [] [] := by simp [FVs]
theorem FVs.cn {h : AH} {κ : Nat → Option Nat} {any d : Bool} {x a : AV} {xs bs : List AV} (h1 : FV h κ any d x a) (h2 : FVs h κ any d xs bs) : FVs h κ any d (x :: xs) (a :: bs) := by simp only [FVs]; exact ⟨_, _, rfl, h1, h2⟩
theorem FV.fn {h : AH} {κ : Nat → Option Nat} {any d : Bool} {g : FuncId} {xs xs' ys ys' : List AV} (h1 : FVs h κ any d xs xs') (h2 : FVs h κ any d ys ys') : FV h κ any d (.func g xs ys) (.func g xs' ys') := by simp only [FV]; exact ⟨_, _, rfl, h1, h2⟩
/-! ### Data -/
def ints (l : List Int) : List AV := l.map (AV.int .i64)
def lsts (L : List (List Int)) : List AV := L.map fun l => .lst l.length (ints l)
def bools (l : List Bool) : List AV := l.map AV.bool
abbrev lst (l : List Int) : AV := .lst l.length (ints l)
abbrev lls (L : List (List Int)) : AV := .lst L.length (lsts L)
abbrev bls (l : List Bool) : AV := .lst l.length (bools l)
abbrev cl (n : Int) (L : List (List Int)) : AV := .agg [.int .i64 n, lls L]
theorem ints_get (l : List Int) (i : Nat) : (ints l)[i]? = (l[i]?).map (AV.int .i64) := List.getElem?_map
theorem lsts_get (L : List (List Int)) (i : Nat) : (lsts L)[i]? = (L[i]?).map fun l => .lst l.length (ints l) := List.getElem?_map
theorem bools_get (l : List Bool) (i : Nat) : (bools l)[i]? = (l[i]?).map AV.bool := List.getElem?_map
theorem ints_length (l : List Int) : (ints l).length = l.length := List.length_map ..
theorem lsts_length (l : List (List Int)) : (lsts l).length = l.length := List.length_map ..
theorem bools_length (l : List Bool) : (bools l).length = l.length := List.length_map ..
theorem box_lst {n : Nat} {cs : List AV} : (AV.lst n cs).box = some [.lst n cs] := rfl
theorem box_int {k : IntKind} {n : Int} : (AV.int k n).box = some [.int k n] := rfl
theorem box_slice {i o n : Nat} {c : Cap} : (AV.slice i o n c).box = some [.slice i o n c] := rfl
theorem box_ptr {i o : Nat} : (AV.ptr i o).box = some [.ptr i o] := rfl
attribute [go_sem] box_lst box_int box_slice box_ptr ints_get lsts_get bools_get ints_length lsts_length bools_length

def absF (x : Int) : Int := if x < 0 then IntKind.i64.wrap (0 - x) else x
theorem absF_eq {x : Int} (h1 : -9223372036854775807 ≤ x) (h2 : x ≤ 9223372036854775807) : absF x = if x < 0 then -x else x := by
  unfold absF; split
  · rw [wrap64 (by omega) (by omega)]; omega
  · rfl
theorem varF_eq {x : Int} (hx : inI64 x) : (if IntKind.i64.wrap (0 - x) > x then IntKind.i64.wrap (0 - x) else x) = absF x := by
  obtain ⟨h1, h2⟩ := hx
  unfold absF
  by_cases hm : x = -9223372036854775808
  · subst hm; decide
  · rw [wrap64 (by omega) (by omega)]
    by_cases h0 : x < 0
    · rw [if_pos h0, if_pos (by omega)]
    · rw [if_neg h0]
      by_cases h3 : 0 - x > x
      · omega
      · rw [if_neg h3]
def lightF (n : Int) (L : List (List Int)) : Bool := !(decide ((L.length : Int) > 60) || decide (n > 40)) && L.all fun l => !decide ((l.length : Int) > 50)

set_option maxHeartbeats 4000000 in
theorem variable_fun (x : Int) (hx : inI64 x) : Fun Try.prog 67 [.int .i64 x] (.int .i64 (absF x)) [] := by
  refine fun_walk (kk := 1000000) prog_ok (show Try.prog.funcs[67]? = some Try.f67 by kernel_rfl) (show Try.f67.body = some _ from rfl) (by kernel_rfl) (by show 1 ≤ _; decide) (by simp) ?_
  refine wpE_seq fun K1 hK1 => ?_
  -- region 0
  refine wpE_gen fun ρ2 e2 => ?_
  have f2_0 := congrFun e2 0
  (simp only [go_sem] at f2_0)
  clear e2
  refine wpE_region ?_
  refine wpOs_step rfl fun K3 hK3 => ?_
  (try simp only [go_sem, f2_0])
  refine hK3 _ _ _ ?_; clear hK3 K3
  refine wpOs_end ?_
  refine hK1 _ _ _ ?_
  (try clear hK1 K1)
  refine wpE_seq fun K4 hK4 => ?_
  -- region 1
  refine wpE_gen fun ρ5 e5 => ?_
  have f5_0 := congrFun e5 0
  (simp only [go_sem, f2_0] at f5_0)
  clear e5
  refine wpE_region ?_
  refine wpOs_step rfl fun K6 hK6 => ?_
  (try simp only [go_sem, f5_0])
  refine hK6 _ _ _ ?_; clear hK6 K6
  refine wpOs_step rfl fun K7 hK7 => ?_
  (try simp only [go_sem, f5_0])
  refine hK7 _ _ _ ?_; clear hK7 K7
  refine wpOs_step rfl fun K8 hK8 => ?_
  (try simp only [go_sem, f5_0])
  refine hK8 _ _ _ ?_; clear hK8 K8
  refine wpOs_step rfl fun K9 hK9 => ?_
  (try simp only [go_sem, f5_0])
  refine hK9 _ _ _ ?_; clear hK9 K9
  refine wpOs_step rfl fun K10 hK10 => ?_
  (try simp only [go_sem, f5_0])
  refine hK10 _ _ _ ?_; clear hK10 K10
  refine wpOs_end ?_
  refine hK4 _ _ _ ?_
  (try clear hK4 K4)
  refine wpE_ret ?_
  (try simp only [go_sem, f5_0])
  refine fin_ret1 rfl ?_
  (try simp only [go_sem, f5_0])
  -- leaf 0
  exact told_flat (congrArg _ (varF_eq hx)) (by simp [FV])
set_option maxHeartbeats 4000000 in
theorem abs_fun (x : Int) : Fun Try.prog 73 [.int .i64 x] (.int .i64 (absF x)) [] := by
  refine fun_walk (kk := 1000000) prog_ok (show Try.prog.funcs[73]? = some Try.f73 by kernel_rfl) (show Try.f73.body = some _ from rfl) (by kernel_rfl) (by show 1 ≤ _; decide) (by simp) ?_
  refine wpE_seq fun K1 hK1 => ?_
  -- region 0
  refine wpE_gen fun ρ2 e2 => ?_
  have f2_0 := congrFun e2 0
  (simp only [go_sem] at f2_0)
  clear e2
  refine wpE_region ?_
  refine wpOs_step rfl fun K3 hK3 => ?_
  (try simp only [go_sem, f2_0])
  refine hK3 _ _ _ ?_; clear hK3 K3
  refine wpOs_end ?_
  refine hK1 _ _ _ ?_
  (try clear hK1 K1)
  refine wpE_seq fun K4 hK4 => ?_
  refine wpE_seq fun K5 hK5 => ?_
  -- region 1
  refine wpE_gen fun ρ6 e6 => ?_
  have f6_0 := congrFun e6 0
  (simp only [go_sem, f2_0] at f6_0)
  clear e6
  refine wpE_region ?_
  refine wpOs_step rfl fun K7 hK7 => ?_
  (try simp only [go_sem, f6_0])
  refine hK7 _ _ _ ?_; clear hK7 K7
  refine wpOs_step rfl fun K8 hK8 => ?_
  (try simp only [go_sem, f6_0])
  refine hK8 _ _ _ ?_; clear hK8 K8
  refine wpOs_end ?_
  refine hK5 _ _ _ ?_
  (try clear hK5 K5)
  refine wpE_cond' ?_
  (try simp only [go_sem, f6_0])
  refine branch_by (fun d1 => ?_) (fun d1 => ?_)
  · skip
    refine wpE_seq fun K9 hK9 => ?_
    -- region 2
    refine wpE_gen fun ρ10 e10 => ?_
    have f10_0 := congrFun e10 0
    (simp only [go_sem, f6_0, d1] at f10_0)
    clear e10
    refine wpE_region ?_
    refine wpOs_step rfl fun K11 hK11 => ?_
    (try simp only [go_sem, d1, f10_0])
    refine hK11 _ _ _ ?_; clear hK11 K11
    refine wpOs_step rfl fun K12 hK12 => ?_
    (try simp only [go_sem, d1, f10_0])
    refine hK12 _ _ _ ?_; clear hK12 K12
    refine wpOs_step rfl fun K13 hK13 => ?_
    (try simp only [go_sem, d1, f10_0])
    refine hK13 _ _ _ ?_; clear hK13 K13
    refine wpOs_end ?_
    refine hK9 _ _ _ ?_
    (try clear hK9 K9)
    refine wpE_ret ?_
    (try simp only [go_sem, d1, f10_0])
    refine fin_ret1 rfl ?_
    (try simp only [go_sem, d1, f10_0])
    -- leaf 0
    refine told_flat (congrArg _ ?_) (by simp [FV])
    unfold absF; rw [if_pos (of_decide_eq_true d1)]
  · skip
    refine wpE_skip ?_
    (try simp only [go_sem])
    refine hK4 _ _ _ ?_
    (try clear hK4 K4)
    refine wpE_seq fun K14 hK14 => ?_
    -- region 3
    refine wpE_gen fun ρ15 e15 => ?_
    have f15_0 := congrFun e15 0
    (simp only [go_sem, f6_0, d1] at f15_0)
    clear e15
    refine wpE_region ?_
    refine wpOs_step rfl fun K16 hK16 => ?_
    (try simp only [go_sem, d1, f15_0])
    refine hK16 _ _ _ ?_; clear hK16 K16
    refine wpOs_step rfl fun K17 hK17 => ?_
    (try simp only [go_sem, d1, f15_0])
    refine hK17 _ _ _ ?_; clear hK17 K17
    refine wpOs_end ?_
    refine hK14 _ _ _ ?_
    (try clear hK14 K14)
    refine wpE_ret ?_
    (try simp only [go_sem, d1, f15_0])
    refine fin_ret1 rfl ?_
    (try simp only [go_sem, d1, f15_0])
    -- leaf 1
    refine told_flat (congrArg _ ?_) (by simp [FV])
    unfold absF; rw [if_neg (of_decide_eq_false d1)]
set_option maxHeartbeats 4000000 in
theorem between_fun (x a b : Int) : Fun Try.prog 48 [.int .i64 x, .int .i64 a, .int .i64 b] (.bool (decide (a ≤ x ∧ x ≤ b))) [] := by
  refine fun_walk (kk := 1000000) prog_ok (show Try.prog.funcs[48]? = some Try.f48 by kernel_rfl) (show Try.f48.body = some _ from rfl) (by kernel_rfl) (by show 3 ≤ _; decide) (by simp) ?_
  refine wpE_seq fun K1 hK1 => ?_
  -- region 0
  refine wpE_gen fun ρ2 e2 => ?_
  have f2_0 := congrFun e2 0
  (simp only [go_sem] at f2_0)
  have f2_1 := congrFun e2 1
  (simp only [go_sem] at f2_1)
  have f2_2 := congrFun e2 2
  (simp only [go_sem] at f2_2)
  clear e2
  refine wpE_region ?_
  refine wpOs_step rfl fun K3 hK3 => ?_
  (try simp only [go_sem, f2_0, f2_1, f2_2])
  refine hK3 _ _ _ ?_; clear hK3 K3
  refine wpOs_end ?_
  refine hK1 _ _ _ ?_
  (try clear hK1 K1)
  refine wpE_seq fun K4 hK4 => ?_
  -- region 1
  refine wpE_gen fun ρ5 e5 => ?_
  have f5_0 := congrFun e5 0
  (simp only [go_sem, f2_0, f2_1, f2_2] at f5_0)
  have f5_1 := congrFun e5 1
  (simp only [go_sem, f2_0, f2_1, f2_2] at f5_1)
  have f5_2 := congrFun e5 2
  (simp only [go_sem, f2_0, f2_1, f2_2] at f5_2)
  clear e5
  refine wpE_region ?_
  refine wpOs_step rfl fun K6 hK6 => ?_
  (try simp only [go_sem, f5_0, f5_1, f5_2])
  refine hK6 _ _ _ ?_; clear hK6 K6
  refine wpOs_step rfl fun K7 hK7 => ?_
  (try simp only [go_sem, f5_0, f5_1, f5_2])
  refine hK7 _ _ _ ?_; clear hK7 K7
  refine wpOs_step rfl fun K8 hK8 => ?_
  (try simp only [go_sem, f5_0, f5_1, f5_2])
  refine hK8 _ _ _ ?_; clear hK8 K8
  refine wpOs_step rfl fun K9 hK9 => ?_
  (try simp only [go_sem, f5_0, f5_1, f5_2])
  refine hK9 _ _ _ ?_; clear hK9 K9
  refine wpOs_guard rfl rfl fun K10 hK10 => ?_
  (try simp only [go_sem, f5_0, f5_1, f5_2])
  refine branch_by (fun d1 => ?_) (fun d1 => ?_)
  · skip
    (try simp only [go_sem, f5_0, f5_1, f5_2, d1])
    refine hK10 _ _ _ ?_; clear hK10 K10
    refine wpOs_guard rfl rfl fun K11 hK11 => ?_
    (try simp only [go_sem, f5_0, f5_1, f5_2, d1])
    refine hK11 _ _ _ ?_; clear hK11 K11
    refine wpOs_guard rfl rfl fun K12 hK12 => ?_
    (try simp only [go_sem, f5_0, f5_1, f5_2, d1])
    refine hK12 _ _ _ ?_; clear hK12 K12
    refine wpOs_step rfl fun K13 hK13 => ?_
    (try simp only [go_sem, f5_0, f5_1, f5_2, d1])
    refine hK13 _ _ _ ?_; clear hK13 K13
    refine wpOs_step rfl fun K14 hK14 => ?_
    (try simp only [go_sem, f5_0, f5_1, f5_2, d1])
    refine hK14 _ _ _ ?_; clear hK14 K14
    refine wpOs_end ?_
    refine hK4 _ _ _ ?_
    (try clear hK4 K4)
    refine wpE_ret ?_
    (try simp only [go_sem, f5_0, f5_1, f5_2, d1])
    refine fin_ret1 rfl ?_
    (try simp only [go_sem, f5_0, f5_1, f5_2, d1])
    -- leaf 0
    refine told_flat (congrArg _ ?_) (by simp [FV])
    simp at d1 ⊢; omega
  · skip
    (try simp only [go_sem, f5_0, f5_1, f5_2, d1])
    refine hK10 _ _ _ ?_; clear hK10 K10
    refine wpOs_guard rfl rfl fun K15 hK15 => ?_
    (try simp only [go_sem, f5_0, f5_1, f5_2, d1])
    refine hK15 _ _ _ ?_; clear hK15 K15
    refine wpOs_guard rfl rfl fun K16 hK16 => ?_
    (try simp only [go_sem, f5_0, f5_1, f5_2, d1])
    refine hK16 _ _ _ ?_; clear hK16 K16
    refine wpOs_step rfl fun K17 hK17 => ?_
    (try simp only [go_sem, f5_0, f5_1, f5_2, d1])
    refine hK17 _ _ _ ?_; clear hK17 K17
    refine wpOs_step rfl fun K18 hK18 => ?_
    (try simp only [go_sem, f5_0, f5_1, f5_2, d1])
    refine hK18 _ _ _ ?_; clear hK18 K18
    refine wpOs_end ?_
    refine hK4 _ _ _ ?_
    (try clear hK4 K4)
    refine wpE_ret ?_
    (try simp only [go_sem, f5_0, f5_1, f5_2, d1])
    refine fin_ret1 rfl ?_
    (try simp only [go_sem, f5_0, f5_1, f5_2, d1])
    -- leaf 1
    refine told_flat (congrArg _ ?_) (by simp [FV])
    simp at d1 ⊢; omega
set_option maxHeartbeats 4000000 in
theorem one_fun (b : Bool) : Fun Try.prog 63 [.bool b] (.int .i64 (if b then 1 else 0)) [] := by
  refine fun_walk (kk := 1000000) prog_ok (show Try.prog.funcs[63]? = some Try.f63 by kernel_rfl) (show Try.f63.body = some _ from rfl) (by kernel_rfl) (by show 1 ≤ _; decide) (by simp) ?_
  refine wpE_seq fun K1 hK1 => ?_
  -- region 0
  refine wpE_gen fun ρ2 e2 => ?_
  have f2_0 := congrFun e2 0
  (simp only [go_sem] at f2_0)
  clear e2
  refine wpE_region ?_
  refine wpOs_step rfl fun K3 hK3 => ?_
  (try simp only [go_sem, f2_0])
  refine hK3 _ _ _ ?_; clear hK3 K3
  refine wpOs_end ?_
  refine hK1 _ _ _ ?_
  (try clear hK1 K1)
  refine wpE_seq fun K4 hK4 => ?_
  refine wpE_seq fun K5 hK5 => ?_
  -- region 1
  refine wpE_gen fun ρ6 e6 => ?_
  have f6_0 := congrFun e6 0
  (simp only [go_sem, f2_0] at f6_0)
  clear e6
  refine wpE_region ?_
  refine wpOs_step rfl fun K7 hK7 => ?_
  (try simp only [go_sem, f6_0])
  refine hK7 _ _ _ ?_; clear hK7 K7
  refine wpOs_end ?_
  refine hK5 _ _ _ ?_
  (try clear hK5 K5)
  refine wpE_cond' ?_
  (try simp only [go_sem, f6_0])
  refine branch_by (fun d1 => ?_) (fun d1 => ?_)
  · skip
    refine wpE_seq fun K8 hK8 => ?_
    -- region 2
    refine wpE_gen fun ρ9 e9 => ?_
    clear e9
    refine wpE_region ?_
    refine wpOs_step rfl fun K10 hK10 => ?_
    (try simp only [go_sem, d1])
    refine hK10 _ _ _ ?_; clear hK10 K10
    refine wpOs_end ?_
    refine hK8 _ _ _ ?_
    (try clear hK8 K8)
    refine wpE_ret ?_
    (try simp only [go_sem, d1])
    refine fin_ret1 rfl ?_
    (try simp only [go_sem, d1])
    -- leaf 0
    refine told_flat (congrArg _ ?_) (by simp [FV])
    simp_all
  · skip
    refine wpE_skip ?_
    (try simp only [go_sem])
    refine hK4 _ _ _ ?_
    (try clear hK4 K4)
    refine wpE_seq fun K11 hK11 => ?_
    -- region 3
    refine wpE_gen fun ρ12 e12 => ?_
    clear e12
    refine wpE_region ?_
    refine wpOs_step rfl fun K13 hK13 => ?_
    (try simp only [go_sem, d1])
    refine hK13 _ _ _ ?_; clear hK13 K13
    refine wpOs_end ?_
    refine hK11 _ _ _ ?_
    (try clear hK11 K11)
    refine wpE_ret ?_
    (try simp only [go_sem, d1])
    refine fin_ret1 rfl ?_
    (try simp only [go_sem, d1])
    -- leaf 1
    refine told_flat (congrArg _ ?_) (by simp [FV])
    simp_all
set_option maxHeartbeats 4000000 in
theorem light_fun (n : Int) (L : List (List Int)) (hn : L.length ≤ maxLen) : Fun Try.prog 18 [cl n L] (.bool (lightF n L)) [] := by
  refine fun_walk (kk := 1000000) prog_ok (show Try.prog.funcs[18]? = some Try.f18 by kernel_rfl) (show Try.f18.body = some _ from rfl) (by kernel_rfl) (by show 1 ≤ _; decide) (by simp) ?_
  refine wpE_seq fun K1 hK1 => ?_
  -- region 0
  refine wpE_gen fun ρ2 e2 => ?_
  have f2_0 := congrFun e2 0
  (simp only [go_sem] at f2_0)
  clear e2
  refine wpE_region ?_
  refine wpOs_step rfl fun K3 hK3 => ?_
  (try simp only [go_sem, f2_0])
  refine hK3 _ _ _ ?_; clear hK3 K3
  refine wpOs_step rfl fun K4 hK4 => ?_
  (try simp only [go_sem, f2_0])
  refine hK4 _ _ _ ?_; clear hK4 K4
  refine wpOs_end ?_
  refine hK1 _ _ _ ?_
  (try clear hK1 K1)
  refine wpE_seq fun K5 hK5 => ?_
  refine wpE_gen fun ρ6 e6 => ?_
  have f6_1 := congrFun e6 1
  (simp only [go_sem, f2_0] at f6_1)
  clear e6
  have J5 : ∀ ρ' : Env, ∀ (h1 : ρ' 1 = ρ6 1) (h12 : (decide ((L.length : Int) > 60) || decide (n > 40)) = false), K5 ρ' [] (hL [.cells [.int .i64 n, lls L] false]) := by
    intro ρ' h1 h12
    have g1 := h1.trans f6_1
    have hL60 : L.length ≤ 60 := by simp at h12; omega
    refine hK5 _ _ _ ?_
    clear hK5 K5
    refine wpE_seq fun K7 hK7 => ?_
    refine wpE_seq fun K8 hK8 => ?_
    -- region 3
    refine wpE_gen fun ρ9 e9 => ?_
    have f9_1 := congrFun e9 1
    (simp only [go_sem, g1] at f9_1)
    clear e9
    refine wpE_region ?_
    refine wpOs_step rfl fun K10 hK10 => ?_
    (try simp only [go_sem, g1, f9_1])
    refine hK10 _ _ _ ?_; clear hK10 K10
    refine wpOs_end ?_
    refine hK8 _ _ _ ?_
    (try clear hK8 K8)
    refine wpE_block ?_
    refine wpE_gen fun ρ11 e11 => ?_
    have f11_1 := congrFun e11 1
    (simp only [go_sem, g1, f9_1] at f11_1)
    have f11_3 := congrFun e11 3
    (simp only [go_sem, g1, f9_1] at f11_3)
    clear e11
    refine wpE_loop (fun mm ρ df g => ∃ i : Nat, mm = L.length - i ∧ df = [] ∧ g = hL [.cells [.int .i64 n, lls L] false] ∧ ρ 3 = .int .i64 (i : Nat) ∧ ρ 1 = ρ11 1 ∧ i ≤ L.length ∧ (∀ j l, j < i → L[j]? = some l → ¬ ((l.length : Int) > 50))) (L.length) (by omega) ⟨0, rfl, rfl, rfl, (by first | rfl | (simp only [go_sem, g1, f11_1, f11_3]; done) | (simp only [go_sem, g1, f11_1, f11_3]; rfl)), rfl, (by omega), (by omega)⟩ ?_
    rintro m12 K12 hK12 ρ df g ⟨i, hm12, rfl, rfl, r12_3, q12_1, hi, hall⟩
    replace q12_1 := q12_1.trans f11_1
    refine wpE_seq fun K13 hK13 => ?_
    refine wpE_seq fun K14 hK14 => ?_
    -- region 4
    refine wpE_gen fun ρ15 e15 => ?_
    have f15_1 := congrFun e15 1
    (simp only [go_sem, g1, r12_3, q12_1] at f15_1)
    have f15_3 := congrFun e15 3
    (simp only [go_sem, g1, r12_3, q12_1] at f15_3)
    clear e15
    refine wpE_region ?_
    refine wpOs_step rfl fun K16 hK16 => ?_
    (try simp only [go_sem, g1, r12_3, q12_1, f15_1, f15_3])
    refine hK16 _ _ _ ?_; clear hK16 K16
    refine wpOs_step rfl fun K17 hK17 => ?_
    (try simp only [go_sem, g1, r12_3, q12_1, f15_1, f15_3])
    refine hK17 _ _ _ ?_; clear hK17 K17
    refine wpOs_step rfl fun K18 hK18 => ?_
    (try simp only [go_sem, g1, r12_3, q12_1, f15_1, f15_3])
    refine hK18 _ _ _ ?_; clear hK18 K18
    refine wpOs_step rfl fun K19 hK19 => ?_
    (try simp only [go_sem, g1, r12_3, q12_1, f15_1, f15_3])
    refine hK19 _ _ _ ?_; clear hK19 K19
    refine wpOs_step rfl fun K20 hK20 => ?_
    (try simp only [go_sem, g1, r12_3, q12_1, f15_1, f15_3])
    refine hK20 _ _ _ ?_; clear hK20 K20
    refine wpOs_end ?_
    refine hK14 _ _ _ ?_
    (try clear hK14 K14)
    refine wpE_cond' ?_
    (try simp only [go_sem, g1, r12_3, q12_1, f15_1, f15_3])
    refine branch_by (fun d1 => ?_) (fun d1 => ?_)
    · skip
      have hlt : i < L.length := by simpa using d1
      obtain ⟨l, hl⟩ : ∃ l, L[i]? = some l := ⟨_, List.getElem?_eq_getElem hlt⟩
      refine wpE_skip ?_
      (try simp only [go_sem])
      refine hK13 _ _ _ ?_
      (try clear hK13 K13)
      refine wpE_seq fun K21 hK21 => ?_
      refine wpE_block ?_
      refine wpE_seq fun K22 hK22 => ?_
      -- region 6
      refine wpE_gen fun ρ23 e23 => ?_
      have f23_1 := congrFun e23 1
      (simp only [go_sem, g1, r12_3, q12_1, f15_1, f15_3, d1, hlt, hl] at f23_1)
      have f23_3 := congrFun e23 3
      (simp only [go_sem, g1, r12_3, q12_1, f15_1, f15_3, d1, hlt, hl] at f23_3)
      clear e23
      refine wpE_region ?_
      refine wpOs_step rfl fun K24 hK24 => ?_
      (try simp only [go_sem, g1, r12_3, q12_1, d1, hlt, hl, f23_1, f23_3])
      refine hK24 _ _ _ ?_; clear hK24 K24
      refine wpOs_step rfl fun K25 hK25 => ?_
      (try simp only [go_sem, g1, r12_3, q12_1, d1, hlt, hl, f23_1, f23_3])
      refine hK25 _ _ _ ?_; clear hK25 K25
      refine wpOs_step rfl fun K26 hK26 => ?_
      (try simp only [go_sem, g1, r12_3, q12_1, d1, hlt, hl, f23_1, f23_3])
      refine hK26 _ _ _ ?_; clear hK26 K26
      refine wpOs_step rfl fun K27 hK27 => ?_
      (try simp only [go_sem, g1, r12_3, q12_1, d1, hlt, hl, f23_1, f23_3])
      refine hK27 _ _ _ ?_; clear hK27 K27
      refine wpOs_step rfl fun K28 hK28 => ?_
      (try simp only [go_sem, g1, r12_3, q12_1, d1, hlt, hl, f23_1, f23_3])
      refine hK28 _ _ _ ?_; clear hK28 K28
      refine wpOs_step rfl fun K29 hK29 => ?_
      (try simp only [go_sem, g1, r12_3, q12_1, d1, hlt, hl, f23_1, f23_3])
      refine hK29 _ _ _ ?_; clear hK29 K29
      refine wpOs_step rfl fun K30 hK30 => ?_
      (try simp only [go_sem, g1, r12_3, q12_1, d1, hlt, hl, f23_1, f23_3])
      refine hK30 _ _ _ ?_; clear hK30 K30
      refine wpOs_end ?_
      refine hK22 _ _ _ ?_
      (try clear hK22 K22)
      refine wpE_cond' ?_
      (try simp only [go_sem, g1, r12_3, q12_1, d1, hlt, hl, f23_1, f23_3])
      refine branch_by (fun d2 => ?_) (fun d2 => ?_)
      · skip
        refine wpE_seq fun K31 hK31 => ?_
        -- region 7
        refine wpE_gen fun ρ32 e32 => ?_
        clear e32
        refine wpE_region ?_
        refine wpOs_step rfl fun K33 hK33 => ?_
        (try simp only [go_sem, g1, r12_3, q12_1, d1, hlt, hl, d2])
        refine hK33 _ _ _ ?_; clear hK33 K33
        refine wpOs_end ?_
        refine hK31 _ _ _ ?_
        (try clear hK31 K31)
        refine wpE_ret ?_
        (try simp only [go_sem, g1, r12_3, q12_1, d1, hlt, hl, d2])
        refine fin_ret1 rfl ?_
        (try simp only [go_sem, g1, r12_3, q12_1, d1, hlt, hl, d2])
        -- leaf 0
        refine told_flat (congrArg _ ?_) (by simp [FV])
        unfold lightF
        have h0 : (L.all fun l => !decide ((l.length : Int) > 50)) = false := by
          rw [List.all_eq_false]
          exact ⟨l, List.mem_iff_getElem?.2 ⟨i, hl⟩, by simp_all⟩
        rw [h0, Bool.and_false]
      · skip
        refine wpE_skip ?_
        (try simp only [go_sem])
        refine hK21 _ _ _ ?_
        (try clear hK21 K21)
        -- region 5
        refine wpE_gen fun ρ34 e34 => ?_
        have f34_1 := congrFun e34 1
        (simp only [go_sem, g1, r12_3, q12_1, d1, hlt, hl, f23_1, f23_3, d2] at f34_1)
        have f34_3 := congrFun e34 3
        (simp only [go_sem, g1, r12_3, q12_1, d1, hlt, hl, f23_1, f23_3, d2] at f34_3)
        clear e34
        refine wpE_region ?_
        refine wpOs_step rfl fun K35 hK35 => ?_
        (try simp only [go_sem, g1, r12_3, q12_1, d1, hlt, hl, d2, f34_1, f34_3])
        refine hK35 _ _ _ ?_; clear hK35 K35
        refine wpOs_step rfl fun K36 hK36 => ?_
        (try simp only [go_sem, g1, r12_3, q12_1, d1, hlt, hl, d2, f34_1, f34_3])
        refine hK36 _ _ _ ?_; clear hK36 K36
        refine wpOs_step rfl fun K37 hK37 => ?_
        (try simp only [go_sem, g1, r12_3, q12_1, d1, hlt, hl, d2, f34_1, f34_3])
        refine hK37 _ _ _ ?_; clear hK37 K37
        refine wpOs_end ?_
        refine hK12 _ _ _ _ (by omega) ⟨i + 1, rfl, rfl, rfl, (by first | rfl | (simp only [go_sem, g1, r12_3, q12_1, d1, hlt, hl, d2, f34_1, f34_3, f11_1]; done) | (simp only [go_sem, g1, r12_3, q12_1, d1, hlt, hl, d2, f34_1, f34_3, f11_1]; rfl) | (simp only [go_sem, g1, r12_3, q12_1, d1, hlt, hl, d2, f34_1, f34_3, f11_1]; rw [wrap64 (by omega) (by omega)]; first | done | rfl | (congr 1; omega))), (by first | rfl | (simp only [go_sem, g1, r12_3, q12_1, d1, hlt, hl, d2, f34_1, f34_3, f11_1]; done) | (simp only [go_sem, g1, r12_3, q12_1, d1, hlt, hl, d2, f34_1, f34_3, f11_1]; rfl) | (simp only [go_sem, g1, r12_3, q12_1, d1, hlt, hl, d2, f34_1, f34_3, f11_1]; rw [wrap64 (by omega) (by omega)]; first | done | rfl | (congr 1; omega))), (by omega), (by intro j l' hj hl'; by_cases e : j = i; (subst e; rw [hl] at hl'; injection hl' with hl'; subst hl'; simp_all); exact hall j l' (by omega) hl')⟩
    · skip
      have hge : i = L.length := by simp at d1; omega
      refine wpE_exit ?_
      (try simp only [go_sem])
      (try simp only [go_sem])
      refine hK7 _ _ _ ?_
      (try clear hK7 K7)
      refine wpE_seq fun K38 hK38 => ?_
      -- region 8
      refine wpE_gen fun ρ39 e39 => ?_
      clear e39
      refine wpE_region ?_
      refine wpOs_step rfl fun K40 hK40 => ?_
      (try simp only [go_sem, g1, r12_3, q12_1, d1])
      refine hK40 _ _ _ ?_; clear hK40 K40
      refine wpOs_end ?_
      refine hK38 _ _ _ ?_
      (try clear hK38 K38)
      refine wpE_ret ?_
      (try simp only [go_sem, g1, r12_3, q12_1, d1])
      refine fin_ret1 rfl ?_
      (try simp only [go_sem, g1, r12_3, q12_1, d1])
      -- leaf 1
      refine told_flat (congrArg _ ?_) (by simp [FV])
      unfold lightF
      have h0 : (L.all fun l => !decide ((l.length : Int) > 50)) = true := by
        rw [List.all_eq_true]
        intro l hl
        obtain ⟨j, hj⟩ := List.mem_iff_getElem?.1 hl
        have := hall j l (by have := (List.getElem?_eq_some_iff.1 hj).1; omega) hj
        simpa using this
      rw [h0]; simp_all
  refine wpE_seq fun K41 hK41 => ?_
  -- region 1
  refine wpE_gen fun ρ42 e42 => ?_
  have f42_1 := congrFun e42 1
  (simp only [go_sem, f6_1] at f42_1)
  clear e42
  refine wpE_region ?_
  refine wpOs_step rfl fun K43 hK43 => ?_
  (try simp only [go_sem, f42_1])
  refine hK43 _ _ _ ?_; clear hK43 K43
  refine wpOs_step rfl fun K44 hK44 => ?_
  (try simp only [go_sem, f42_1])
  refine hK44 _ _ _ ?_; clear hK44 K44
  refine wpOs_step rfl fun K45 hK45 => ?_
  (try simp only [go_sem, f42_1])
  refine hK45 _ _ _ ?_; clear hK45 K45
  refine wpOs_step rfl fun K46 hK46 => ?_
  (try simp only [go_sem, f42_1])
  refine hK46 _ _ _ ?_; clear hK46 K46
  refine wpOs_step rfl fun K47 hK47 => ?_
  (try simp only [go_sem, f42_1])
  refine hK47 _ _ _ ?_; clear hK47 K47
  refine wpOs_guard rfl rfl fun K48 hK48 => ?_
  (try simp only [go_sem, f42_1])
  refine branch_by (fun d3 => ?_) (fun d3 => ?_)
  · skip
    (try simp only [go_sem, f42_1, d3])
    refine hK48 _ _ _ ?_; clear hK48 K48
    refine wpOs_guard rfl rfl fun K49 hK49 => ?_
    (try simp only [go_sem, f42_1, d3])
    refine hK49 _ _ _ ?_; clear hK49 K49
    refine wpOs_guard rfl rfl fun K50 hK50 => ?_
    (try simp only [go_sem, f42_1, d3])
    refine hK50 _ _ _ ?_; clear hK50 K50
    refine wpOs_step rfl fun K51 hK51 => ?_
    (try simp only [go_sem, f42_1, d3])
    refine hK51 _ _ _ ?_; clear hK51 K51
    refine wpOs_end ?_
    refine hK41 _ _ _ ?_
    (try clear hK41 K41)
    refine wpE_condT (by simp only [go_sem, f42_1, d3]) ?_
    refine wpE_seq fun K52 hK52 => ?_
    -- region 2
    refine wpE_gen fun ρ53 e53 => ?_
    clear e53
    refine wpE_region ?_
    refine wpOs_step rfl fun K54 hK54 => ?_
    (try simp only [go_sem, d3])
    refine hK54 _ _ _ ?_; clear hK54 K54
    refine wpOs_end ?_
    refine hK52 _ _ _ ?_
    (try clear hK52 K52)
    refine wpE_ret ?_
    (try simp only [go_sem, d3])
    refine fin_ret1 rfl ?_
    (try simp only [go_sem, d3])
    -- leaf 2
    refine told_flat (congrArg _ ?_) (by simp [FV])
    unfold lightF; simp_all
  · skip
    (try simp only [go_sem, f42_1, d3])
    refine hK48 _ _ _ ?_; clear hK48 K48
    refine wpOs_guard rfl rfl fun K55 hK55 => ?_
    (try simp only [go_sem, f42_1, d3])
    refine hK55 _ _ _ ?_; clear hK55 K55
    refine wpOs_guard rfl rfl fun K56 hK56 => ?_
    (try simp only [go_sem, f42_1, d3])
    refine hK56 _ _ _ ?_; clear hK56 K56
    refine wpOs_step rfl fun K57 hK57 => ?_
    (try simp only [go_sem, f42_1, d3])
    refine hK57 _ _ _ ?_; clear hK57 K57
    refine wpOs_end ?_
    refine hK41 _ _ _ ?_
    (try clear hK41 K41)
    refine wpE_cond' ?_
    (try simp only [go_sem, f42_1, d3])
    refine branch_by (fun d4 => ?_) (fun d4 => ?_)
    · skip
      refine wpE_seq fun K58 hK58 => ?_
      -- region 2
      refine wpE_gen fun ρ59 e59 => ?_
      clear e59
      refine wpE_region ?_
      refine wpOs_step rfl fun K60 hK60 => ?_
      (try simp only [go_sem, d3, d4])
      refine hK60 _ _ _ ?_; clear hK60 K60
      refine wpOs_end ?_
      refine hK58 _ _ _ ?_
      (try clear hK58 K58)
      refine wpE_ret ?_
      (try simp only [go_sem, d3, d4])
      refine fin_ret1 rfl ?_
      (try simp only [go_sem, d3, d4])
      -- leaf 3
      refine told_flat (congrArg _ ?_) (by simp [FV])
      unfold lightF; simp_all
    · skip
      refine wpE_skip ?_
      (try simp only [go_sem])
      exact J5 _ (by first | rfl | (simp only [go_sem, f42_1, d3, d4, f6_1]; done) | (simp only [go_sem, f42_1, d3, d4, f6_1]; rfl)) (by simp_all)
end Go.Ai
