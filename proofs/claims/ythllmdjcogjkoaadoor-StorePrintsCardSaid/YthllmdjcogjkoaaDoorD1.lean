/- Small functions of the store's statements: what they answer. -/
import Derived.Test.YthllmdjcogjkoaaDoorTy
import Derived.Test.YthllmdjcogjkoaaDoorStoreAwake
namespace Go.Ai
open Go.Proofs
set_option linter.unusedVariables false
set_option linter.unusedSimpArgs false

theorem FVs.nl {h : AH} {κ : Nat → Option Nat} {any d : Bool} : FVs h κ any d [] [] := by simp [FVs]
theorem FVs.cn {h : AH} {κ : Nat → Option Nat} {any d : Bool} {x a : AV} {xs bs : List AV} (h1 : FV h κ any d x a) (h2 : FVs h κ any d xs bs) : FVs h κ any d (x :: xs) (a :: bs) := by simp only [FVs]; exact ⟨_, _, rfl, h1, h2⟩
theorem FV.i {h : AH} {κ : Nat → Option Nat} {any d : Bool} {k : IntKind} {n : Int} : FV h κ any d (.int k n) (.int k n) := by simp [FV]
theorem FV.t {h : AH} {κ : Nat → Option Nat} {any d : Bool} {s : ByteArray} : FV h κ any d (.str s) (.str s) := by simp [FV]
def ints (l : List Int) : List AV := l.map (AV.int .i64)
theorem ints_get (l : List Int) (i : Nat) : (ints l)[i]? = (l[i]?).map (AV.int .i64) := List.getElem?_map
theorem ints_length (l : List Int) : (ints l).length = l.length := List.length_map ..
abbrev lst (l : List Int) : AV := .lst l.length (ints l)
attribute [go_sem] ints_get ints_length
def eiF (l : List Int) : Int := (l.find? fun x => !decide (x = 0)).getD 0
theorem eiF_hit {l : List Int} {i : Nat} {x : Int} (hl : l[i]? = some x) (hx : ¬ x = 0) (h0 : ∀ j y, j < i → l[j]? = some y → y = 0) : eiF l = x := by
  unfold eiF
  have : l.find? (fun x => !decide (x = 0)) = some x := by
    rw [List.find?_eq_some_iff_getElem]
    obtain ⟨hi, rfl⟩ := List.getElem?_eq_some_iff.1 hl
    refine ⟨by simpa using hx, i, hi, rfl, fun j hj => ?_⟩
    have := h0 j _ hj (List.getElem?_eq_getElem (by omega))
    simpa using this
  rw [this]; rfl
theorem eiF_none {l : List Int} (h0 : ∀ j y, j < l.length → l[j]? = some y → y = 0) : eiF l = 0 := by
  unfold eiF
  have : l.find? (fun x => !decide (x = 0)) = none := by
    rw [List.find?_eq_none]
    intro x hx
    obtain ⟨j, hj⟩ := List.mem_iff_getElem?.1 hx
    have := h0 j x (List.getElem?_eq_some_iff.1 hj).1 hj
    simpa using this
  rw [this]; rfl
def prS (x b : Int) : Int := (IntKind.i64.wrap (IntKind.i64.wrap (IntKind.i64.wrap (131 * x) + IntKind.i64.wrap b) + 1)).tmod 65521
def prF (s : ByteArray) (x : Int) : Nat → Int
  | 0 => x
  | i + 1 => prS (prF s x i) (bAt s i)

set_option maxHeartbeats 4000000 in
theorem between_fun (x a b : Int) : Fun Tryd.prog 7 [.int .i64 x, .int .i64 a, .int .i64 b] (.bool (decide (a ≤ x ∧ x ≤ b))) [] := by
  refine fun_walk (kk := 1000000) prog_ok (show Tryd.prog.funcs[7]? = some Tryd.f7 by kernel_rfl) (show Tryd.f7.body = some _ from rfl) (by kernel_rfl) (by show 3 ≤ _; decide) (by simp) ?_
  refine wpE_seq fun K1 hK1 => ?_
  -- region 0
  refine wpE_gen fun ρ2 e2 => ?_
  have f2_0 := congrFun e2 0
  (simp only [go_sem] at f2_0)
  have f2_1 := congrFun e2 1
  (simp only [go_sem] at f2_1)
  have f2_2 := congrFun e2 2
  (simp only [go_sem] at f2_2)
  clear e2
  refine wpE_region ?_
  refine wpOs_step rfl fun K3 hK3 => ?_
  (try simp only [go_sem, f2_0, f2_1, f2_2])
  refine hK3 _ _ _ ?_; clear hK3 K3
  refine wpOs_end ?_
  refine hK1 _ _ _ ?_
  (try clear hK1 K1)
  refine wpE_seq fun K4 hK4 => ?_
  -- region 1
  refine wpE_gen fun ρ5 e5 => ?_
  have f5_0 := congrFun e5 0
  (simp only [go_sem, f2_0, f2_1, f2_2] at f5_0)
  have f5_1 := congrFun e5 1
  (simp only [go_sem, f2_0, f2_1, f2_2] at f5_1)
  have f5_2 := congrFun e5 2
  (simp only [go_sem, f2_0, f2_1, f2_2] at f5_2)
  clear e5
  refine wpE_region ?_
  refine wpOs_step rfl fun K6 hK6 => ?_
  (try simp only [go_sem, f5_0, f5_1, f5_2])
  refine hK6 _ _ _ ?_; clear hK6 K6
  refine wpOs_step rfl fun K7 hK7 => ?_
  (try simp only [go_sem, f5_0, f5_1, f5_2])
  refine hK7 _ _ _ ?_; clear hK7 K7
  refine wpOs_step rfl fun K8 hK8 => ?_
  (try simp only [go_sem, f5_0, f5_1, f5_2])
  refine hK8 _ _ _ ?_; clear hK8 K8
  refine wpOs_step rfl fun K9 hK9 => ?_
  (try simp only [go_sem, f5_0, f5_1, f5_2])
  refine hK9 _ _ _ ?_; clear hK9 K9
  refine wpOs_guard rfl rfl fun K10 hK10 => ?_
  (try simp only [go_sem, f5_0, f5_1, f5_2])
  refine branch_by (fun d1 => ?_) (fun d1 => ?_)
  · skip
    (try simp only [go_sem, f5_0, f5_1, f5_2, d1])
    refine hK10 _ _ _ ?_; clear hK10 K10
    refine wpOs_guard rfl rfl fun K11 hK11 => ?_
    (try simp only [go_sem, f5_0, f5_1, f5_2, d1])
    refine hK11 _ _ _ ?_; clear hK11 K11
    refine wpOs_guard rfl rfl fun K12 hK12 => ?_
    (try simp only [go_sem, f5_0, f5_1, f5_2, d1])
    refine hK12 _ _ _ ?_; clear hK12 K12
    refine wpOs_step rfl fun K13 hK13 => ?_
    (try simp only [go_sem, f5_0, f5_1, f5_2, d1])
    refine hK13 _ _ _ ?_; clear hK13 K13
    refine wpOs_step rfl fun K14 hK14 => ?_
    (try simp only [go_sem, f5_0, f5_1, f5_2, d1])
    refine hK14 _ _ _ ?_; clear hK14 K14
    refine wpOs_end ?_
    refine hK4 _ _ _ ?_
    (try clear hK4 K4)
    refine wpE_ret ?_
    (try simp only [go_sem, f5_0, f5_1, f5_2, d1])
    refine fin_ret1 rfl ?_
    (try simp only [go_sem, f5_0, f5_1, f5_2, d1])
    -- leaf 0
    refine told_flat (congrArg _ ?_) (by simp [FV])
    simp at d1 ⊢; omega
  · skip
    (try simp only [go_sem, f5_0, f5_1, f5_2, d1])
    refine hK10 _ _ _ ?_; clear hK10 K10
    refine wpOs_guard rfl rfl fun K15 hK15 => ?_
    (try simp only [go_sem, f5_0, f5_1, f5_2, d1])
    refine hK15 _ _ _ ?_; clear hK15 K15
    refine wpOs_guard rfl rfl fun K16 hK16 => ?_
    (try simp only [go_sem, f5_0, f5_1, f5_2, d1])
    refine hK16 _ _ _ ?_; clear hK16 K16
    refine wpOs_step rfl fun K17 hK17 => ?_
    (try simp only [go_sem, f5_0, f5_1, f5_2, d1])
    refine hK17 _ _ _ ?_; clear hK17 K17
    refine wpOs_step rfl fun K18 hK18 => ?_
    (try simp only [go_sem, f5_0, f5_1, f5_2, d1])
    refine hK18 _ _ _ ?_; clear hK18 K18
    refine wpOs_end ?_
    refine hK4 _ _ _ ?_
    (try clear hK4 K4)
    refine wpE_ret ?_
    (try simp only [go_sem, f5_0, f5_1, f5_2, d1])
    refine fin_ret1 rfl ?_
    (try simp only [go_sem, f5_0, f5_1, f5_2, d1])
    -- leaf 1
    refine told_flat (congrArg _ ?_) (by simp [FV])
    simp at d1 ⊢; omega
set_option maxHeartbeats 4000000 in
theorem in_fun (x a b : Int) : Fun Tryd.prog 28 [.int .i64 x, .int .i64 a, .int .i64 b] (.bool (decide (a ≤ x ∧ x ≤ b))) [] := by
  refine fun_walk (kk := 1000000) prog_ok (show Tryd.prog.funcs[28]? = some Tryd.f28 by kernel_rfl) (show Tryd.f28.body = some _ from rfl) (by kernel_rfl) (by show 3 ≤ _; decide) (by simp) ?_
  refine wpE_seq fun K1 hK1 => ?_
  -- region 0
  refine wpE_gen fun ρ2 e2 => ?_
  have f2_0 := congrFun e2 0
  (simp only [go_sem] at f2_0)
  have f2_1 := congrFun e2 1
  (simp only [go_sem] at f2_1)
  have f2_2 := congrFun e2 2
  (simp only [go_sem] at f2_2)
  clear e2
  refine wpE_region ?_
  refine wpOs_step rfl fun K3 hK3 => ?_
  (try simp only [go_sem, f2_0, f2_1, f2_2])
  refine hK3 _ _ _ ?_; clear hK3 K3
  refine wpOs_end ?_
  refine hK1 _ _ _ ?_
  (try clear hK1 K1)
  refine wpE_seq fun K4 hK4 => ?_
  -- region 1
  refine wpE_gen fun ρ5 e5 => ?_
  have f5_0 := congrFun e5 0
  (simp only [go_sem, f2_0, f2_1, f2_2] at f5_0)
  have f5_1 := congrFun e5 1
  (simp only [go_sem, f2_0, f2_1, f2_2] at f5_1)
  have f5_2 := congrFun e5 2
  (simp only [go_sem, f2_0, f2_1, f2_2] at f5_2)
  clear e5
  refine wpE_region ?_
  refine wpOs_step rfl fun K6 hK6 => ?_
  (try simp only [go_sem, f5_0, f5_1, f5_2])
  refine hK6 _ _ _ ?_; clear hK6 K6
  refine wpOs_step rfl fun K7 hK7 => ?_
  (try simp only [go_sem, f5_0, f5_1, f5_2])
  refine hK7 _ _ _ ?_; clear hK7 K7
  refine wpOs_step rfl fun K8 hK8 => ?_
  (try simp only [go_sem, f5_0, f5_1, f5_2])
  refine hK8 _ _ _ ?_; clear hK8 K8
  refine wpOs_step rfl fun K9 hK9 => ?_
  (try simp only [go_sem, f5_0, f5_1, f5_2])
  refine hK9 _ _ _ ?_; clear hK9 K9
  refine wpOs_guard rfl rfl fun K10 hK10 => ?_
  (try simp only [go_sem, f5_0, f5_1, f5_2])
  refine branch_by (fun d1 => ?_) (fun d1 => ?_)
  · skip
    (try simp only [go_sem, f5_0, f5_1, f5_2, d1])
    refine hK10 _ _ _ ?_; clear hK10 K10
    refine wpOs_guard rfl rfl fun K11 hK11 => ?_
    (try simp only [go_sem, f5_0, f5_1, f5_2, d1])
    refine hK11 _ _ _ ?_; clear hK11 K11
    refine wpOs_guard rfl rfl fun K12 hK12 => ?_
    (try simp only [go_sem, f5_0, f5_1, f5_2, d1])
    refine hK12 _ _ _ ?_; clear hK12 K12
    refine wpOs_step rfl fun K13 hK13 => ?_
    (try simp only [go_sem, f5_0, f5_1, f5_2, d1])
    refine hK13 _ _ _ ?_; clear hK13 K13
    refine wpOs_step rfl fun K14 hK14 => ?_
    (try simp only [go_sem, f5_0, f5_1, f5_2, d1])
    refine hK14 _ _ _ ?_; clear hK14 K14
    refine wpOs_end ?_
    refine hK4 _ _ _ ?_
    (try clear hK4 K4)
    refine wpE_ret ?_
    (try simp only [go_sem, f5_0, f5_1, f5_2, d1])
    refine fin_ret1 rfl ?_
    (try simp only [go_sem, f5_0, f5_1, f5_2, d1])
    -- leaf 0
    refine told_flat (congrArg _ ?_) (by simp [FV])
    simp at d1 ⊢; omega
  · skip
    (try simp only [go_sem, f5_0, f5_1, f5_2, d1])
    refine hK10 _ _ _ ?_; clear hK10 K10
    refine wpOs_guard rfl rfl fun K15 hK15 => ?_
    (try simp only [go_sem, f5_0, f5_1, f5_2, d1])
    refine hK15 _ _ _ ?_; clear hK15 K15
    refine wpOs_guard rfl rfl fun K16 hK16 => ?_
    (try simp only [go_sem, f5_0, f5_1, f5_2, d1])
    refine hK16 _ _ _ ?_; clear hK16 K16
    refine wpOs_step rfl fun K17 hK17 => ?_
    (try simp only [go_sem, f5_0, f5_1, f5_2, d1])
    refine hK17 _ _ _ ?_; clear hK17 K17
    refine wpOs_step rfl fun K18 hK18 => ?_
    (try simp only [go_sem, f5_0, f5_1, f5_2, d1])
    refine hK18 _ _ _ ?_; clear hK18 K18
    refine wpOs_end ?_
    refine hK4 _ _ _ ?_
    (try clear hK4 K4)
    refine wpE_ret ?_
    (try simp only [go_sem, f5_0, f5_1, f5_2, d1])
    refine fin_ret1 rfl ?_
    (try simp only [go_sem, f5_0, f5_1, f5_2, d1])
    -- leaf 1
    refine told_flat (congrArg _ ?_) (by simp [FV])
    simp at d1 ⊢; omega
set_option maxHeartbeats 4000000 in
theorem unless_fun (b : Bool) (e : Int) : Fun Tryd.prog 27 [.bool b, .int .i64 e] (.int .i64 (if b then 0 else e)) [] := by
  refine fun_walk (kk := 1000000) prog_ok (show Tryd.prog.funcs[27]? = some Tryd.f27 by kernel_rfl) (show Tryd.f27.body = some _ from rfl) (by kernel_rfl) (by show 2 ≤ _; decide) (by simp) ?_
  refine wpE_seq fun K1 hK1 => ?_
  -- region 0
  refine wpE_gen fun ρ2 e2 => ?_
  have f2_0 := congrFun e2 0
  (simp only [go_sem] at f2_0)
  have f2_1 := congrFun e2 1
  (simp only [go_sem] at f2_1)
  clear e2
  refine wpE_region ?_
  refine wpOs_step rfl fun K3 hK3 => ?_
  (try simp only [go_sem, f2_0, f2_1])
  refine hK3 _ _ _ ?_; clear hK3 K3
  refine wpOs_end ?_
  refine hK1 _ _ _ ?_
  (try clear hK1 K1)
  refine wpE_seq fun K4 hK4 => ?_
  refine wpE_seq fun K5 hK5 => ?_
  -- region 1
  refine wpE_gen fun ρ6 e6 => ?_
  have f6_0 := congrFun e6 0
  (simp only [go_sem, f2_0, f2_1] at f6_0)
  have f6_1 := congrFun e6 1
  (simp only [go_sem, f2_0, f2_1] at f6_1)
  clear e6
  refine wpE_region ?_
  refine wpOs_step rfl fun K7 hK7 => ?_
  (try simp only [go_sem, f6_0, f6_1])
  refine hK7 _ _ _ ?_; clear hK7 K7
  refine wpOs_end ?_
  refine hK5 _ _ _ ?_
  (try clear hK5 K5)
  refine wpE_cond' ?_
  (try simp only [go_sem, f6_0, f6_1])
  refine branch_by (fun d1 => ?_) (fun d1 => ?_)
  · skip
    refine wpE_seq fun K8 hK8 => ?_
    -- region 2
    refine wpE_gen fun ρ9 e9 => ?_
    clear e9
    refine wpE_region ?_
    refine wpOs_step rfl fun K10 hK10 => ?_
    (try simp only [go_sem, d1])
    refine hK10 _ _ _ ?_; clear hK10 K10
    refine wpOs_end ?_
    refine hK8 _ _ _ ?_
    (try clear hK8 K8)
    refine wpE_ret ?_
    (try simp only [go_sem, d1])
    refine fin_ret1 rfl ?_
    (try simp only [go_sem, d1])
    -- leaf 0
    refine told_flat (congrArg _ ?_) (by simp [FV])
    simp_all
  · skip
    refine wpE_skip ?_
    (try simp only [go_sem])
    refine hK4 _ _ _ ?_
    (try clear hK4 K4)
    refine wpE_seq fun K11 hK11 => ?_
    -- region 3
    refine wpE_gen fun ρ12 e12 => ?_
    have f12_1 := congrFun e12 1
    (simp only [go_sem, f6_0, f6_1, d1] at f12_1)
    clear e12
    refine wpE_region ?_
    refine wpOs_step rfl fun K13 hK13 => ?_
    (try simp only [go_sem, d1, f12_1])
    refine hK13 _ _ _ ?_; clear hK13 K13
    refine wpOs_step rfl fun K14 hK14 => ?_
    (try simp only [go_sem, d1, f12_1])
    refine hK14 _ _ _ ?_; clear hK14 K14
    refine wpOs_end ?_
    refine hK11 _ _ _ ?_
    (try clear hK11 K11)
    refine wpE_ret ?_
    (try simp only [go_sem, d1, f12_1])
    refine fin_ret1 rfl ?_
    (try simp only [go_sem, d1, f12_1])
    -- leaf 1
    refine told_flat (congrArg _ ?_) (by simp [FV])
    simp_all
set_option maxHeartbeats 4000000 in
theorem either_fun (l : List Int) (hn : l.length ≤ 1000) : Fun Tryd.prog 26 [lst l] (.int .i64 (eiF l)) [] := by
  refine fun_walk (kk := 1000000) prog_ok (show Tryd.prog.funcs[26]? = some Tryd.f26 by kernel_rfl) (show Tryd.f26.body = some _ from rfl) (by kernel_rfl) (by show 1 ≤ _; decide) (by simp) ?_
  refine wpE_seq fun K1 hK1 => ?_
  -- region 0
  refine wpE_gen fun ρ2 e2 => ?_
  have f2_0 := congrFun e2 0
  (simp only [go_sem] at f2_0)
  clear e2
  refine wpE_region ?_
  refine wpOs_step rfl fun K3 hK3 => ?_
  (try simp only [go_sem, f2_0])
  refine hK3 _ _ _ ?_; clear hK3 K3
  refine wpOs_end ?_
  refine hK1 _ _ _ ?_
  (try clear hK1 K1)
  refine wpE_seq fun K4 hK4 => ?_
  refine wpE_seq fun K5 hK5 => ?_
  -- region 1
  refine wpE_gen fun ρ6 e6 => ?_
  have f6_0 := congrFun e6 0
  (simp only [go_sem, f2_0] at f6_0)
  clear e6
  refine wpE_region ?_
  refine wpOs_step rfl fun K7 hK7 => ?_
  (try simp only [go_sem, f6_0])
  refine hK7 _ _ _ ?_; clear hK7 K7
  refine wpOs_step rfl fun K8 hK8 => ?_
  (try simp only [go_sem, f6_0])
  refine hK8 _ _ _ ?_; clear hK8 K8
  refine wpOs_step rfl fun K9 hK9 => ?_
  (try simp only [go_sem, f6_0])
  refine hK9 _ _ _ ?_; clear hK9 K9
  refine wpOs_end ?_
  refine hK5 _ _ _ ?_
  (try clear hK5 K5)
  refine wpE_block ?_
  refine wpE_gen fun ρ10 e10 => ?_
  have f10_5 := congrFun e10 5
  (simp only [go_sem, f6_0] at f10_5)
  have f10_6 := congrFun e10 6
  (simp only [go_sem, f6_0] at f10_6)
  have f10_7 := congrFun e10 7
  (simp only [go_sem, f6_0] at f10_7)
  clear e10
  refine wpE_loop (fun mm ρ df g => ∃ i : Nat, mm = l.length - i ∧ df = [] ∧ g = hL [] ∧ ρ 7 = .int .i64 (i : Nat) ∧ ρ 5 = ρ10 5 ∧ ρ 6 = ρ10 6 ∧ i ≤ l.length ∧ (∀ j y, j < i → l[j]? = some y → y = 0)) (l.length) (by omega) ⟨0, rfl, rfl, rfl, (by first | rfl | (simp only [go_sem, f10_5, f10_6, f10_7]; done) | (simp only [go_sem, f10_5, f10_6, f10_7]; rfl)), rfl, rfl, (by omega), (by omega)⟩ ?_
  rintro m11 K11 hK11 ρ df g ⟨i, hm11, rfl, rfl, r11_7, q11_5, q11_6, hi, hall⟩
  replace q11_5 := q11_5.trans f10_5
  replace q11_6 := q11_6.trans f10_6
  refine wpE_seq fun K12 hK12 => ?_
  -- region 2
  refine wpE_gen fun ρ13 e13 => ?_
  have f13_5 := congrFun e13 5
  (simp only [go_sem, r11_7, q11_5, q11_6] at f13_5)
  have f13_6 := congrFun e13 6
  (simp only [go_sem, r11_7, q11_5, q11_6] at f13_6)
  have f13_7 := congrFun e13 7
  (simp only [go_sem, r11_7, q11_5, q11_6] at f13_7)
  clear e13
  refine wpE_region ?_
  refine wpOs_step rfl fun K14 hK14 => ?_
  (try simp only [go_sem, r11_7, q11_5, q11_6, f13_5, f13_6, f13_7])
  refine hK14 _ _ _ ?_; clear hK14 K14
  refine wpOs_end ?_
  refine hK12 _ _ _ ?_
  (try clear hK12 K12)
  refine wpE_seq fun K15 hK15 => ?_
  refine wpE_cond' ?_
  (try simp only [go_sem, r11_7, q11_5, q11_6, f13_5, f13_6, f13_7])
  refine branch_by (fun d1 => ?_) (fun d1 => ?_)
  · skip
    have hlt : i < l.length := by simpa using d1
    obtain ⟨x, hl⟩ : ∃ x, l[i]? = some x := ⟨_, List.getElem?_eq_getElem hlt⟩
    refine wpE_skip ?_
    (try simp only [go_sem])
    refine hK15 _ _ _ ?_
    (try clear hK15 K15)
    refine wpE_seq fun K16 hK16 => ?_
    refine wpE_block ?_
    refine wpE_seq fun K17 hK17 => ?_
    -- region 3
    refine wpE_gen fun ρ18 e18 => ?_
    have f18_5 := congrFun e18 5
    (simp only [go_sem, r11_7, q11_5, q11_6, f13_5, f13_6, f13_7, d1, hlt, hl] at f18_5)
    have f18_6 := congrFun e18 6
    (simp only [go_sem, r11_7, q11_5, q11_6, f13_5, f13_6, f13_7, d1, hlt, hl] at f18_6)
    have f18_7 := congrFun e18 7
    (simp only [go_sem, r11_7, q11_5, q11_6, f13_5, f13_6, f13_7, d1, hlt, hl] at f18_7)
    clear e18
    refine wpE_region ?_
    refine wpOs_step rfl fun K19 hK19 => ?_
    (try simp only [go_sem, r11_7, q11_5, q11_6, d1, hlt, hl, f18_5, f18_6, f18_7])
    refine hK19 _ _ _ ?_; clear hK19 K19
    refine wpOs_step rfl fun K20 hK20 => ?_
    (try simp only [go_sem, r11_7, q11_5, q11_6, d1, hlt, hl, f18_5, f18_6, f18_7])
    refine hK20 _ _ _ ?_; clear hK20 K20
    refine wpOs_step rfl fun K21 hK21 => ?_
    (try simp only [go_sem, r11_7, q11_5, q11_6, d1, hlt, hl, f18_5, f18_6, f18_7])
    refine hK21 _ _ _ ?_; clear hK21 K21
    refine wpOs_end ?_
    refine hK17 _ _ _ ?_
    (try clear hK17 K17)
    refine wpE_seq fun K22 hK22 => ?_
    -- region 4
    refine wpE_gen fun ρ23 e23 => ?_
    have f23_4 := congrFun e23 4
    (simp only [go_sem, r11_7, q11_5, q11_6, d1, hlt, hl, f18_5, f18_6, f18_7] at f23_4)
    have f23_5 := congrFun e23 5
    (simp only [go_sem, r11_7, q11_5, q11_6, d1, hlt, hl, f18_5, f18_6, f18_7] at f23_5)
    have f23_6 := congrFun e23 6
    (simp only [go_sem, r11_7, q11_5, q11_6, d1, hlt, hl, f18_5, f18_6, f18_7] at f23_6)
    have f23_7 := congrFun e23 7
    (simp only [go_sem, r11_7, q11_5, q11_6, d1, hlt, hl, f18_5, f18_6, f18_7] at f23_7)
    clear e23
    refine wpE_region ?_
    refine wpOs_step rfl fun K24 hK24 => ?_
    (try simp only [go_sem, r11_7, q11_5, q11_6, d1, hlt, hl, f23_4, f23_5, f23_6, f23_7])
    refine hK24 _ _ _ ?_; clear hK24 K24
    refine wpOs_step rfl fun K25 hK25 => ?_
    (try simp only [go_sem, r11_7, q11_5, q11_6, d1, hlt, hl, f23_4, f23_5, f23_6, f23_7])
    refine hK25 _ _ _ ?_; clear hK25 K25
    refine wpOs_end ?_
    refine hK22 _ _ _ ?_
    (try clear hK22 K22)
    refine wpE_cond' ?_
    (try simp only [go_sem, r11_7, q11_5, q11_6, d1, hlt, hl, f23_4, f23_5, f23_6, f23_7])
    refine branch_by (fun d2 => ?_) (fun d2 => ?_)
    · skip
      refine wpE_seq fun K26 hK26 => ?_
      -- region 5
      refine wpE_gen fun ρ27 e27 => ?_
      have f27_4 := congrFun e27 4
      (simp only [go_sem, r11_7, q11_5, q11_6, d1, hlt, hl, f23_4, f23_5, f23_6, f23_7, d2] at f27_4)
      clear e27
      refine wpE_region ?_
      refine wpOs_step rfl fun K28 hK28 => ?_
      (try simp only [go_sem, r11_7, q11_5, q11_6, d1, hlt, hl, d2, f27_4])
      refine hK28 _ _ _ ?_; clear hK28 K28
      refine wpOs_step rfl fun K29 hK29 => ?_
      (try simp only [go_sem, r11_7, q11_5, q11_6, d1, hlt, hl, d2, f27_4])
      refine hK29 _ _ _ ?_; clear hK29 K29
      refine wpOs_end ?_
      refine hK26 _ _ _ ?_
      (try clear hK26 K26)
      refine wpE_ret ?_
      (try simp only [go_sem, r11_7, q11_5, q11_6, d1, hlt, hl, d2, f27_4])
      refine fin_ret1 rfl ?_
      (try simp only [go_sem, r11_7, q11_5, q11_6, d1, hlt, hl, d2, f27_4])
      -- leaf 0
      refine told_flat (congrArg _ (eiF_hit hl (by simp_all) hall).symm) (by simp [FV])
    · skip
      refine wpE_skip ?_
      (try simp only [go_sem])
      refine hK16 _ _ _ ?_
      (try clear hK16 K16)
      -- region 6
      refine wpE_gen fun ρ30 e30 => ?_
      have f30_5 := congrFun e30 5
      (simp only [go_sem, r11_7, q11_5, q11_6, d1, hlt, hl, f23_4, f23_5, f23_6, f23_7, d2] at f30_5)
      have f30_6 := congrFun e30 6
      (simp only [go_sem, r11_7, q11_5, q11_6, d1, hlt, hl, f23_4, f23_5, f23_6, f23_7, d2] at f30_6)
      have f30_7 := congrFun e30 7
      (simp only [go_sem, r11_7, q11_5, q11_6, d1, hlt, hl, f23_4, f23_5, f23_6, f23_7, d2] at f30_7)
      clear e30
      refine wpE_region ?_
      refine wpOs_step rfl fun K31 hK31 => ?_
      (try simp only [go_sem, r11_7, q11_5, q11_6, d1, hlt, hl, d2, f30_5, f30_6, f30_7])
      refine hK31 _ _ _ ?_; clear hK31 K31
      refine wpOs_step rfl fun K32 hK32 => ?_
      (try simp only [go_sem, r11_7, q11_5, q11_6, d1, hlt, hl, d2, f30_5, f30_6, f30_7])
      refine hK32 _ _ _ ?_; clear hK32 K32
      refine wpOs_end ?_
      refine hK11 _ _ _ _ (by omega) ⟨i + 1, rfl, rfl, rfl, (by first | rfl | (simp only [go_sem, r11_7, q11_5, q11_6, d1, hlt, hl, d2, f30_5, f30_6, f30_7, f10_5, f10_6]; done) | (simp only [go_sem, r11_7, q11_5, q11_6, d1, hlt, hl, d2, f30_5, f30_6, f30_7, f10_5, f10_6]; rfl) | (simp only [go_sem, r11_7, q11_5, q11_6, d1, hlt, hl, d2, f30_5, f30_6, f30_7, f10_5, f10_6]; rw [wrap64 (by omega) (by omega)]; first | done | rfl | (congr 1; omega))), (by first | rfl | (simp only [go_sem, r11_7, q11_5, q11_6, d1, hlt, hl, d2, f30_5, f30_6, f30_7, f10_5, f10_6]; done) | (simp only [go_sem, r11_7, q11_5, q11_6, d1, hlt, hl, d2, f30_5, f30_6, f30_7, f10_5, f10_6]; rfl) | (simp only [go_sem, r11_7, q11_5, q11_6, d1, hlt, hl, d2, f30_5, f30_6, f30_7, f10_5, f10_6]; rw [wrap64 (by omega) (by omega)]; first | done | rfl | (congr 1; omega))), (by first | rfl | (simp only [go_sem, r11_7, q11_5, q11_6, d1, hlt, hl, d2, f30_5, f30_6, f30_7, f10_5, f10_6]; done) | (simp only [go_sem, r11_7, q11_5, q11_6, d1, hlt, hl, d2, f30_5, f30_6, f30_7, f10_5, f10_6]; rfl) | (simp only [go_sem, r11_7, q11_5, q11_6, d1, hlt, hl, d2, f30_5, f30_6, f30_7, f10_5, f10_6]; rw [wrap64 (by omega) (by omega)]; first | done | rfl | (congr 1; omega))), (by omega), (by intro j y hj hy; by_cases e : j = i; (subst e; rw [hl] at hy; injection hy with hy; subst hy; simp_all); exact hall j y (by omega) hy)⟩
  · skip
    have hge : i = l.length := by simp at d1; omega
    refine wpE_exit ?_
    (try simp only [go_sem])
    (try simp only [go_sem])
    refine hK4 _ _ _ ?_
    (try clear hK4 K4)
    refine wpE_seq fun K33 hK33 => ?_
    -- region 7
    refine wpE_gen fun ρ34 e34 => ?_
    clear e34
    refine wpE_region ?_
    refine wpOs_step rfl fun K35 hK35 => ?_
    (try simp only [go_sem, r11_7, q11_5, q11_6, d1])
    refine hK35 _ _ _ ?_; clear hK35 K35
    refine wpOs_end ?_
    refine hK33 _ _ _ ?_
    (try clear hK33 K33)
    refine wpE_ret ?_
    (try simp only [go_sem, r11_7, q11_5, q11_6, d1])
    refine fin_ret1 rfl ?_
    (try simp only [go_sem, r11_7, q11_5, q11_6, d1])
    -- leaf 1
    refine told_flat (congrArg _ (eiF_none (fun j y hj hy => hall j y (by omega) hy)).symm) (by simp [FV])
set_option maxHeartbeats 4000000 in
theorem fingerprint_fun (s : ByteArray) (x : Int) (hn : s.size ≤ 40010) : Fun Tryd.prog 29 [.str s, .int .i64 x] (.int .i64 (prF s x s.size)) [] := by
  have h65 : decide ((65521 : Int) = 0) = false := by decide
  refine fun_walk (kk := 1000000) prog_ok (show Tryd.prog.funcs[29]? = some Tryd.f29 by kernel_rfl) (show Tryd.f29.body = some _ from rfl) (by kernel_rfl) (by show 2 ≤ _; decide) (by simp) ?_
  refine wpE_seq fun K1 hK1 => ?_
  -- region 0
  refine wpE_gen fun ρ2 e2 => ?_
  have f2_0 := congrFun e2 0
  (simp only [go_sem, h65] at f2_0)
  have f2_1 := congrFun e2 1
  (simp only [go_sem, h65] at f2_1)
  clear e2
  refine wpE_region ?_
  refine wpOs_step rfl fun K3 hK3 => ?_
  (try simp only [go_sem, h65, f2_0, f2_1])
  refine hK3 _ _ _ ?_; clear hK3 K3
  refine wpOs_end ?_
  refine hK1 _ _ _ ?_
  (try clear hK1 K1)
  refine wpE_seq fun K4 hK4 => ?_
  refine wpE_seq fun K5 hK5 => ?_
  -- region 1
  refine wpE_gen fun ρ6 e6 => ?_
  have f6_0 := congrFun e6 0
  (simp only [go_sem, h65, f2_0, f2_1] at f6_0)
  have f6_1 := congrFun e6 1
  (simp only [go_sem, h65, f2_0, f2_1] at f6_1)
  clear e6
  refine wpE_region ?_
  refine wpOs_step rfl fun K7 hK7 => ?_
  (try simp only [go_sem, h65, f6_0, f6_1])
  refine hK7 _ _ _ ?_; clear hK7 K7
  refine wpOs_step rfl fun K8 hK8 => ?_
  (try simp only [go_sem, h65, f6_0, f6_1])
  refine hK8 _ _ _ ?_; clear hK8 K8
  refine wpOs_step rfl fun K9 hK9 => ?_
  (try simp only [go_sem, h65, f6_0, f6_1])
  refine hK9 _ _ _ ?_; clear hK9 K9
  refine wpOs_end ?_
  refine hK5 _ _ _ ?_
  (try clear hK5 K5)
  refine wpE_block ?_
  refine wpE_gen fun ρ10 e10 => ?_
  have f10_0 := congrFun e10 0
  (simp only [go_sem, h65, f6_0, f6_1] at f10_0)
  have f10_1 := congrFun e10 1
  (simp only [go_sem, h65, f6_0, f6_1] at f10_1)
  have f10_7 := congrFun e10 7
  (simp only [go_sem, h65, f6_0, f6_1] at f10_7)
  have f10_8 := congrFun e10 8
  (simp only [go_sem, h65, f6_0, f6_1] at f10_8)
  clear e10
  refine wpE_loop (fun mm ρ df g => ∃ i : Nat, mm = s.size - i ∧ df = [] ∧ g = hL [] ∧ ρ 1 = .int .i64 (prF s x i) ∧ ρ 8 = .int .i64 (i : Nat) ∧ ρ 0 = ρ10 0 ∧ ρ 7 = ρ10 7 ∧ i ≤ s.size) (s.size) (by omega) ⟨0, rfl, rfl, rfl, (by first | rfl | (simp only [go_sem, h65, f10_0, f10_1, f10_7, f10_8]; done) | (simp only [go_sem, h65, f10_0, f10_1, f10_7, f10_8]; rfl)), (by first | rfl | (simp only [go_sem, h65, f10_0, f10_1, f10_7, f10_8]; done) | (simp only [go_sem, h65, f10_0, f10_1, f10_7, f10_8]; rfl)), rfl, rfl, (by omega)⟩ ?_
  rintro m11 K11 hK11 ρ df g ⟨i, hm11, rfl, rfl, r11_1, r11_8, q11_0, q11_7, hi⟩
  replace q11_0 := q11_0.trans f10_0
  replace q11_7 := q11_7.trans f10_7
  refine wpE_seq fun K12 hK12 => ?_
  -- region 2
  refine wpE_gen fun ρ13 e13 => ?_
  have f13_0 := congrFun e13 0
  (simp only [go_sem, h65, r11_1, r11_8, q11_0, q11_7] at f13_0)
  have f13_1 := congrFun e13 1
  (simp only [go_sem, h65, r11_1, r11_8, q11_0, q11_7] at f13_1)
  have f13_7 := congrFun e13 7
  (simp only [go_sem, h65, r11_1, r11_8, q11_0, q11_7] at f13_7)
  have f13_8 := congrFun e13 8
  (simp only [go_sem, h65, r11_1, r11_8, q11_0, q11_7] at f13_8)
  clear e13
  refine wpE_region ?_
  refine wpOs_step rfl fun K14 hK14 => ?_
  (try simp only [go_sem, h65, r11_1, r11_8, q11_0, q11_7, f13_0, f13_1, f13_7, f13_8])
  refine hK14 _ _ _ ?_; clear hK14 K14
  refine wpOs_end ?_
  refine hK12 _ _ _ ?_
  (try clear hK12 K12)
  refine wpE_seq fun K15 hK15 => ?_
  refine wpE_cond' ?_
  (try simp only [go_sem, h65, r11_1, r11_8, q11_0, q11_7, f13_0, f13_1, f13_7, f13_8])
  refine branch_by (fun d1 => ?_) (fun d1 => ?_)
  · skip
    have hlt : i < s.size := by simpa using d1
    refine wpE_skip ?_
    (try simp only [go_sem])
    refine hK15 _ _ _ ?_
    (try clear hK15 K15)
    refine wpE_seq fun K16 hK16 => ?_
    refine wpE_block ?_
    refine wpE_seq fun K17 hK17 => ?_
    -- region 3
    refine wpE_gen fun ρ18 e18 => ?_
    have f18_0 := congrFun e18 0
    (simp only [go_sem, h65, r11_1, r11_8, q11_0, q11_7, f13_0, f13_1, f13_7, f13_8, d1, hlt] at f18_0)
    have f18_1 := congrFun e18 1
    (simp only [go_sem, h65, r11_1, r11_8, q11_0, q11_7, f13_0, f13_1, f13_7, f13_8, d1, hlt] at f18_1)
    have f18_7 := congrFun e18 7
    (simp only [go_sem, h65, r11_1, r11_8, q11_0, q11_7, f13_0, f13_1, f13_7, f13_8, d1, hlt] at f18_7)
    have f18_8 := congrFun e18 8
    (simp only [go_sem, h65, r11_1, r11_8, q11_0, q11_7, f13_0, f13_1, f13_7, f13_8, d1, hlt] at f18_8)
    clear e18
    refine wpE_region ?_
    refine wpOs_step rfl fun K19 hK19 => ?_
    (try simp only [go_sem, h65, r11_1, r11_8, q11_0, q11_7, d1, hlt, f18_0, f18_1, f18_7, f18_8])
    refine hK19 _ _ _ ?_; clear hK19 K19
    refine wpOs_step rfl fun K20 hK20 => ?_
    (try simp only [go_sem, h65, r11_1, r11_8, q11_0, q11_7, d1, hlt, f18_0, f18_1, f18_7, f18_8])
    refine hK20 _ _ _ ?_; clear hK20 K20
    refine wpOs_end ?_
    refine hK17 _ _ _ ?_
    (try clear hK17 K17)
    -- region 4
    refine wpE_gen fun ρ21 e21 => ?_
    have f21_0 := congrFun e21 0
    (simp only [go_sem, h65, r11_1, r11_8, q11_0, q11_7, d1, hlt, f18_0, f18_1, f18_7, f18_8] at f21_0)
    have f21_1 := congrFun e21 1
    (simp only [go_sem, h65, r11_1, r11_8, q11_0, q11_7, d1, hlt, f18_0, f18_1, f18_7, f18_8] at f21_1)
    have f21_5 := congrFun e21 5
    (simp only [go_sem, h65, r11_1, r11_8, q11_0, q11_7, d1, hlt, f18_0, f18_1, f18_7, f18_8] at f21_5)
    have f21_7 := congrFun e21 7
    (simp only [go_sem, h65, r11_1, r11_8, q11_0, q11_7, d1, hlt, f18_0, f18_1, f18_7, f18_8] at f21_7)
    have f21_8 := congrFun e21 8
    (simp only [go_sem, h65, r11_1, r11_8, q11_0, q11_7, d1, hlt, f18_0, f18_1, f18_7, f18_8] at f21_8)
    clear e21
    refine wpE_region ?_
    refine wpOs_step rfl fun K22 hK22 => ?_
    (try simp only [go_sem, h65, r11_1, r11_8, q11_0, q11_7, d1, hlt, f21_0, f21_1, f21_5, f21_7, f21_8])
    refine hK22 _ _ _ ?_; clear hK22 K22
    refine wpOs_step rfl fun K23 hK23 => ?_
    (try simp only [go_sem, h65, r11_1, r11_8, q11_0, q11_7, d1, hlt, f21_0, f21_1, f21_5, f21_7, f21_8])
    refine hK23 _ _ _ ?_; clear hK23 K23
    refine wpOs_step rfl fun K24 hK24 => ?_
    (try simp only [go_sem, h65, r11_1, r11_8, q11_0, q11_7, d1, hlt, f21_0, f21_1, f21_5, f21_7, f21_8])
    refine hK24 _ _ _ ?_; clear hK24 K24
    refine wpOs_step rfl fun K25 hK25 => ?_
    (try simp only [go_sem, h65, r11_1, r11_8, q11_0, q11_7, d1, hlt, f21_0, f21_1, f21_5, f21_7, f21_8])
    refine hK25 _ _ _ ?_; clear hK25 K25
    refine wpOs_step rfl fun K26 hK26 => ?_
    (try simp only [go_sem, h65, r11_1, r11_8, q11_0, q11_7, d1, hlt, f21_0, f21_1, f21_5, f21_7, f21_8])
    refine hK26 _ _ _ ?_; clear hK26 K26
    refine wpOs_step rfl fun K27 hK27 => ?_
    (try simp only [go_sem, h65, r11_1, r11_8, q11_0, q11_7, d1, hlt, f21_0, f21_1, f21_5, f21_7, f21_8])
    refine hK27 _ _ _ ?_; clear hK27 K27
    refine wpOs_step rfl fun K28 hK28 => ?_
    (try simp only [go_sem, h65, r11_1, r11_8, q11_0, q11_7, d1, hlt, f21_0, f21_1, f21_5, f21_7, f21_8])
    refine hK28 _ _ _ ?_; clear hK28 K28
    refine wpOs_step rfl fun K29 hK29 => ?_
    (try simp only [go_sem, h65, r11_1, r11_8, q11_0, q11_7, d1, hlt, f21_0, f21_1, f21_5, f21_7, f21_8])
    refine hK29 _ _ _ ?_; clear hK29 K29
    refine wpOs_step rfl fun K30 hK30 => ?_
    (try simp only [go_sem, h65, r11_1, r11_8, q11_0, q11_7, d1, hlt, f21_0, f21_1, f21_5, f21_7, f21_8])
    refine hK30 _ _ _ ?_; clear hK30 K30
    refine wpOs_step rfl fun K31 hK31 => ?_
    (try simp only [go_sem, h65, r11_1, r11_8, q11_0, q11_7, d1, hlt, f21_0, f21_1, f21_5, f21_7, f21_8])
    refine hK31 _ _ _ ?_; clear hK31 K31
    refine wpOs_end ?_
    refine hK16 _ _ _ ?_
    (try clear hK16 K16)
    -- region 5
    refine wpE_gen fun ρ32 e32 => ?_
    have f32_0 := congrFun e32 0
    (simp only [go_sem, h65, r11_1, r11_8, q11_0, q11_7, d1, hlt, f21_0, f21_1, f21_5, f21_7, f21_8] at f32_0)
    have f32_1 := congrFun e32 1
    (simp only [go_sem, h65, r11_1, r11_8, q11_0, q11_7, d1, hlt, f21_0, f21_1, f21_5, f21_7, f21_8] at f32_1)
    have f32_7 := congrFun e32 7
    (simp only [go_sem, h65, r11_1, r11_8, q11_0, q11_7, d1, hlt, f21_0, f21_1, f21_5, f21_7, f21_8] at f32_7)
    have f32_8 := congrFun e32 8
    (simp only [go_sem, h65, r11_1, r11_8, q11_0, q11_7, d1, hlt, f21_0, f21_1, f21_5, f21_7, f21_8] at f32_8)
    clear e32
    refine wpE_region ?_
    refine wpOs_step rfl fun K33 hK33 => ?_
    (try simp only [go_sem, h65, r11_1, r11_8, q11_0, q11_7, d1, hlt, f32_0, f32_1, f32_7, f32_8])
    refine hK33 _ _ _ ?_; clear hK33 K33
    refine wpOs_step rfl fun K34 hK34 => ?_
    (try simp only [go_sem, h65, r11_1, r11_8, q11_0, q11_7, d1, hlt, f32_0, f32_1, f32_7, f32_8])
    refine hK34 _ _ _ ?_; clear hK34 K34
    refine wpOs_end ?_
    refine hK11 _ _ _ _ (by omega) ⟨i + 1, rfl, rfl, rfl, (by first | rfl | (simp only [go_sem, h65, r11_1, r11_8, q11_0, q11_7, d1, hlt, f32_0, f32_1, f32_7, f32_8, f10_0, f10_7]; done) | (simp only [go_sem, h65, r11_1, r11_8, q11_0, q11_7, d1, hlt, f32_0, f32_1, f32_7, f32_8, f10_0, f10_7]; rfl) | (simp only [go_sem, h65, r11_1, r11_8, q11_0, q11_7, d1, hlt, f32_0, f32_1, f32_7, f32_8, f10_0, f10_7]; rw [wrap64 (by omega) (by omega)]; first | done | rfl | (congr 1; omega))), (by first | rfl | (simp only [go_sem, h65, r11_1, r11_8, q11_0, q11_7, d1, hlt, f32_0, f32_1, f32_7, f32_8, f10_0, f10_7]; done) | (simp only [go_sem, h65, r11_1, r11_8, q11_0, q11_7, d1, hlt, f32_0, f32_1, f32_7, f32_8, f10_0, f10_7]; rfl) | (simp only [go_sem, h65, r11_1, r11_8, q11_0, q11_7, d1, hlt, f32_0, f32_1, f32_7, f32_8, f10_0, f10_7]; rw [wrap64 (by omega) (by omega)]; first | done | rfl | (congr 1; omega))), (by first | rfl | (simp only [go_sem, h65, r11_1, r11_8, q11_0, q11_7, d1, hlt, f32_0, f32_1, f32_7, f32_8, f10_0, f10_7]; done) | (simp only [go_sem, h65, r11_1, r11_8, q11_0, q11_7, d1, hlt, f32_0, f32_1, f32_7, f32_8, f10_0, f10_7]; rfl) | (simp only [go_sem, h65, r11_1, r11_8, q11_0, q11_7, d1, hlt, f32_0, f32_1, f32_7, f32_8, f10_0, f10_7]; rw [wrap64 (by omega) (by omega)]; first | done | rfl | (congr 1; omega))), (by first | rfl | (simp only [go_sem, h65, r11_1, r11_8, q11_0, q11_7, d1, hlt, f32_0, f32_1, f32_7, f32_8, f10_0, f10_7]; done) | (simp only [go_sem, h65, r11_1, r11_8, q11_0, q11_7, d1, hlt, f32_0, f32_1, f32_7, f32_8, f10_0, f10_7]; rfl) | (simp only [go_sem, h65, r11_1, r11_8, q11_0, q11_7, d1, hlt, f32_0, f32_1, f32_7, f32_8, f10_0, f10_7]; rw [wrap64 (by omega) (by omega)]; first | done | rfl | (congr 1; omega))), (by omega)⟩
  · skip
    have hge : i = s.size := by simp at d1; omega
    refine wpE_exit ?_
    (try simp only [go_sem])
    (try simp only [go_sem])
    refine hK4 _ _ _ ?_
    (try clear hK4 K4)
    refine wpE_seq fun K35 hK35 => ?_
    -- region 6
    refine wpE_gen fun ρ36 e36 => ?_
    have f36_1 := congrFun e36 1
    (simp only [go_sem, h65, r11_1, r11_8, q11_0, q11_7, f13_0, f13_1, f13_7, f13_8, d1] at f36_1)
    clear e36
    refine wpE_region ?_
    refine wpOs_step rfl fun K37 hK37 => ?_
    (try simp only [go_sem, h65, r11_1, r11_8, q11_0, q11_7, d1, f36_1])
    refine hK37 _ _ _ ?_; clear hK37 K37
    refine wpOs_step rfl fun K38 hK38 => ?_
    (try simp only [go_sem, h65, r11_1, r11_8, q11_0, q11_7, d1, f36_1])
    refine hK38 _ _ _ ?_; clear hK38 K38
    refine wpOs_end ?_
    refine hK35 _ _ _ ?_
    (try clear hK35 K35)
    refine wpE_ret ?_
    (try simp only [go_sem, h65, r11_1, r11_8, q11_0, q11_7, d1, f36_1])
    refine fin_ret1 rfl ?_
    (try simp only [go_sem, h65, r11_1, r11_8, q11_0, q11_7, d1, f36_1])
    -- leaf 0
    subst hge; exact told_flat rfl (by simp [FV])
set_option maxHeartbeats 4000000 in
theorem print_fun (s : ByteArray) (x : Int) (hn : s.size ≤ 40010) : Fun Tryd.prog 8 [.str s, .int .i64 x] (.int .i64 (prF s x s.size)) [] := by
  have h65 : decide ((65521 : Int) = 0) = false := by decide
  refine fun_walk (kk := 1000000) prog_ok (show Tryd.prog.funcs[8]? = some Tryd.f8 by kernel_rfl) (show Tryd.f8.body = some _ from rfl) (by kernel_rfl) (by show 2 ≤ _; decide) (by simp) ?_
  refine wpE_seq fun K1 hK1 => ?_
  -- region 0
  refine wpE_gen fun ρ2 e2 => ?_
  have f2_0 := congrFun e2 0
  (simp only [go_sem, h65] at f2_0)
  have f2_1 := congrFun e2 1
  (simp only [go_sem, h65] at f2_1)
  clear e2
  refine wpE_region ?_
  refine wpOs_step rfl fun K3 hK3 => ?_
  (try simp only [go_sem, h65, f2_0, f2_1])
  refine hK3 _ _ _ ?_; clear hK3 K3
  refine wpOs_end ?_
  refine hK1 _ _ _ ?_
  (try clear hK1 K1)
  refine wpE_seq fun K4 hK4 => ?_
  -- region 1
  refine wpE_gen fun ρ5 e5 => ?_
  have f5_0 := congrFun e5 0
  (simp only [go_sem, h65, f2_0, f2_1] at f5_0)
  have f5_1 := congrFun e5 1
  (simp only [go_sem, h65, f2_0, f2_1] at f5_1)
  clear e5
  refine wpE_region ?_
  refine wpOs_step rfl fun K6 hK6 => ?_
  (try simp only [go_sem, h65, f5_0, f5_1])
  refine hK6 _ _ _ ?_; clear hK6 K6
  refine wpOs_step rfl fun K7 hK7 => ?_
  (try simp only [go_sem, h65, f5_0, f5_1])
  refine hK7 _ _ _ ?_; clear hK7 K7
  refine wpOs_end ?_
  refine hK4 _ _ _ ?_
  (try clear hK4 K4)
  refine wpE_seq fun K8 hK8 => ?_
  refine wpE_seq fun K9 hK9 => ?_
  -- region 2
  refine wpE_gen fun ρ10 e10 => ?_
  have f10_0 := congrFun e10 0
  (simp only [go_sem, h65, f5_0, f5_1] at f10_0)
  have f10_5 := congrFun e10 5
  (simp only [go_sem, h65, f5_0, f5_1] at f10_5)
  clear e10
  refine wpE_region ?_
  refine wpOs_step rfl fun K11 hK11 => ?_
  (try simp only [go_sem, h65, f10_0, f10_5])
  refine hK11 _ _ _ ?_; clear hK11 K11
  refine wpOs_end ?_
  refine hK9 _ _ _ ?_
  (try clear hK9 K9)
  refine wpE_block ?_
  refine wpE_gen fun ρ12 e12 => ?_
  have f12_0 := congrFun e12 0
  (simp only [go_sem, h65, f10_0, f10_5] at f12_0)
  have f12_5 := congrFun e12 5
  (simp only [go_sem, h65, f10_0, f10_5] at f12_5)
  have f12_6 := congrFun e12 6
  (simp only [go_sem, h65, f10_0, f10_5] at f12_6)
  clear e12
  refine wpE_loop (fun mm ρ df g => ∃ i : Nat, mm = s.size - i ∧ df = [] ∧ g = hL [] ∧ ρ 5 = .int .i64 (prF s x i) ∧ ρ 6 = .int .i64 (i : Nat) ∧ ρ 0 = ρ12 0 ∧ i ≤ s.size) (s.size) (by omega) ⟨0, rfl, rfl, rfl, (by first | rfl | (simp only [go_sem, h65, f12_0, f12_5, f12_6]; done) | (simp only [go_sem, h65, f12_0, f12_5, f12_6]; rfl)), (by first | rfl | (simp only [go_sem, h65, f12_0, f12_5, f12_6]; done) | (simp only [go_sem, h65, f12_0, f12_5, f12_6]; rfl)), rfl, (by omega)⟩ ?_
  rintro m13 K13 hK13 ρ df g ⟨i, hm13, rfl, rfl, r13_5, r13_6, q13_0, hi⟩
  replace q13_0 := q13_0.trans f12_0
  refine wpE_seq fun K14 hK14 => ?_
  refine wpE_seq fun K15 hK15 => ?_
  -- region 3
  refine wpE_gen fun ρ16 e16 => ?_
  have f16_0 := congrFun e16 0
  (simp only [go_sem, h65, r13_5, r13_6, q13_0] at f16_0)
  have f16_5 := congrFun e16 5
  (simp only [go_sem, h65, r13_5, r13_6, q13_0] at f16_5)
  have f16_6 := congrFun e16 6
  (simp only [go_sem, h65, r13_5, r13_6, q13_0] at f16_6)
  clear e16
  refine wpE_region ?_
  refine wpOs_step rfl fun K17 hK17 => ?_
  (try simp only [go_sem, h65, r13_5, r13_6, q13_0, f16_0, f16_5, f16_6])
  refine hK17 _ _ _ ?_; clear hK17 K17
  refine wpOs_step rfl fun K18 hK18 => ?_
  (try simp only [go_sem, h65, r13_5, r13_6, q13_0, f16_0, f16_5, f16_6])
  refine hK18 _ _ _ ?_; clear hK18 K18
  refine wpOs_step rfl fun K19 hK19 => ?_
  (try simp only [go_sem, h65, r13_5, r13_6, q13_0, f16_0, f16_5, f16_6])
  refine hK19 _ _ _ ?_; clear hK19 K19
  refine wpOs_step rfl fun K20 hK20 => ?_
  (try simp only [go_sem, h65, r13_5, r13_6, q13_0, f16_0, f16_5, f16_6])
  refine hK20 _ _ _ ?_; clear hK20 K20
  refine wpOs_end ?_
  refine hK15 _ _ _ ?_
  (try clear hK15 K15)
  refine wpE_cond' ?_
  (try simp only [go_sem, h65, r13_5, r13_6, q13_0, f16_0, f16_5, f16_6])
  refine branch_by (fun d1 => ?_) (fun d1 => ?_)
  · skip
    have hlt : i < s.size := by simpa using d1
    refine wpE_skip ?_
    (try simp only [go_sem])
    refine hK14 _ _ _ ?_
    (try clear hK14 K14)
    refine wpE_seq fun K21 hK21 => ?_
    refine wpE_block ?_
    -- region 5
    refine wpE_gen fun ρ22 e22 => ?_
    have f22_0 := congrFun e22 0
    (simp only [go_sem, h65, r13_5, r13_6, q13_0, f16_0, f16_5, f16_6, d1, hlt] at f22_0)
    have f22_5 := congrFun e22 5
    (simp only [go_sem, h65, r13_5, r13_6, q13_0, f16_0, f16_5, f16_6, d1, hlt] at f22_5)
    have f22_6 := congrFun e22 6
    (simp only [go_sem, h65, r13_5, r13_6, q13_0, f16_0, f16_5, f16_6, d1, hlt] at f22_6)
    clear e22
    refine wpE_region ?_
    refine wpOs_step rfl fun K23 hK23 => ?_
    (try simp only [go_sem, h65, r13_5, r13_6, q13_0, d1, hlt, f22_0, f22_5, f22_6])
    refine hK23 _ _ _ ?_; clear hK23 K23
    refine wpOs_step rfl fun K24 hK24 => ?_
    (try simp only [go_sem, h65, r13_5, r13_6, q13_0, d1, hlt, f22_0, f22_5, f22_6])
    refine hK24 _ _ _ ?_; clear hK24 K24
    refine wpOs_step rfl fun K25 hK25 => ?_
    (try simp only [go_sem, h65, r13_5, r13_6, q13_0, d1, hlt, f22_0, f22_5, f22_6])
    refine hK25 _ _ _ ?_; clear hK25 K25
    refine wpOs_step rfl fun K26 hK26 => ?_
    (try simp only [go_sem, h65, r13_5, r13_6, q13_0, d1, hlt, f22_0, f22_5, f22_6])
    refine hK26 _ _ _ ?_; clear hK26 K26
    refine wpOs_step rfl fun K27 hK27 => ?_
    (try simp only [go_sem, h65, r13_5, r13_6, q13_0, d1, hlt, f22_0, f22_5, f22_6])
    refine hK27 _ _ _ ?_; clear hK27 K27
    refine wpOs_step rfl fun K28 hK28 => ?_
    (try simp only [go_sem, h65, r13_5, r13_6, q13_0, d1, hlt, f22_0, f22_5, f22_6])
    refine hK28 _ _ _ ?_; clear hK28 K28
    refine wpOs_step rfl fun K29 hK29 => ?_
    (try simp only [go_sem, h65, r13_5, r13_6, q13_0, d1, hlt, f22_0, f22_5, f22_6])
    refine hK29 _ _ _ ?_; clear hK29 K29
    refine wpOs_step rfl fun K30 hK30 => ?_
    (try simp only [go_sem, h65, r13_5, r13_6, q13_0, d1, hlt, f22_0, f22_5, f22_6])
    refine hK30 _ _ _ ?_; clear hK30 K30
    refine wpOs_step rfl fun K31 hK31 => ?_
    (try simp only [go_sem, h65, r13_5, r13_6, q13_0, d1, hlt, f22_0, f22_5, f22_6])
    refine hK31 _ _ _ ?_; clear hK31 K31
    refine wpOs_step rfl fun K32 hK32 => ?_
    (try simp only [go_sem, h65, r13_5, r13_6, q13_0, d1, hlt, f22_0, f22_5, f22_6])
    refine hK32 _ _ _ ?_; clear hK32 K32
    refine wpOs_end ?_
    refine hK21 _ _ _ ?_
    (try clear hK21 K21)
    -- region 4
    refine wpE_gen fun ρ33 e33 => ?_
    have f33_0 := congrFun e33 0
    (simp only [go_sem, h65, r13_5, r13_6, q13_0, d1, hlt, f22_0, f22_5, f22_6] at f33_0)
    have f33_5 := congrFun e33 5
    (simp only [go_sem, h65, r13_5, r13_6, q13_0, d1, hlt, f22_0, f22_5, f22_6] at f33_5)
    have f33_6 := congrFun e33 6
    (simp only [go_sem, h65, r13_5, r13_6, q13_0, d1, hlt, f22_0, f22_5, f22_6] at f33_6)
    clear e33
    refine wpE_region ?_
    refine wpOs_step rfl fun K34 hK34 => ?_
    (try simp only [go_sem, h65, r13_5, r13_6, q13_0, d1, hlt, f33_0, f33_5, f33_6])
    refine hK34 _ _ _ ?_; clear hK34 K34
    refine wpOs_step rfl fun K35 hK35 => ?_
    (try simp only [go_sem, h65, r13_5, r13_6, q13_0, d1, hlt, f33_0, f33_5, f33_6])
    refine hK35 _ _ _ ?_; clear hK35 K35
    refine wpOs_step rfl fun K36 hK36 => ?_
    (try simp only [go_sem, h65, r13_5, r13_6, q13_0, d1, hlt, f33_0, f33_5, f33_6])
    refine hK36 _ _ _ ?_; clear hK36 K36
    refine wpOs_end ?_
    refine hK13 _ _ _ _ (by omega) ⟨i + 1, rfl, rfl, rfl, (by first | rfl | (simp only [go_sem, h65, r13_5, r13_6, q13_0, d1, hlt, f33_0, f33_5, f33_6, f12_0]; done) | (simp only [go_sem, h65, r13_5, r13_6, q13_0, d1, hlt, f33_0, f33_5, f33_6, f12_0]; rfl) | (simp only [go_sem, h65, r13_5, r13_6, q13_0, d1, hlt, f33_0, f33_5, f33_6, f12_0]; rw [wrap64 (by omega) (by omega)]; first | done | rfl | (congr 1; omega))), (by first | rfl | (simp only [go_sem, h65, r13_5, r13_6, q13_0, d1, hlt, f33_0, f33_5, f33_6, f12_0]; done) | (simp only [go_sem, h65, r13_5, r13_6, q13_0, d1, hlt, f33_0, f33_5, f33_6, f12_0]; rfl) | (simp only [go_sem, h65, r13_5, r13_6, q13_0, d1, hlt, f33_0, f33_5, f33_6, f12_0]; rw [wrap64 (by omega) (by omega)]; first | done | rfl | (congr 1; omega))), (by first | rfl | (simp only [go_sem, h65, r13_5, r13_6, q13_0, d1, hlt, f33_0, f33_5, f33_6, f12_0]; done) | (simp only [go_sem, h65, r13_5, r13_6, q13_0, d1, hlt, f33_0, f33_5, f33_6, f12_0]; rfl) | (simp only [go_sem, h65, r13_5, r13_6, q13_0, d1, hlt, f33_0, f33_5, f33_6, f12_0]; rw [wrap64 (by omega) (by omega)]; first | done | rfl | (congr 1; omega))), (by omega)⟩
  · skip
    have hge : i = s.size := by simp at d1; omega
    refine wpE_exit ?_
    (try simp only [go_sem])
    (try simp only [go_sem])
    refine hK8 _ _ _ ?_
    (try clear hK8 K8)
    refine wpE_seq fun K37 hK37 => ?_
    -- region 6
    refine wpE_gen fun ρ38 e38 => ?_
    have f38_5 := congrFun e38 5
    (simp only [go_sem, h65, r13_5, r13_6, q13_0, f16_0, f16_5, f16_6, d1] at f38_5)
    clear e38
    refine wpE_region ?_
    refine wpOs_step rfl fun K39 hK39 => ?_
    (try simp only [go_sem, h65, r13_5, r13_6, q13_0, d1, f38_5])
    refine hK39 _ _ _ ?_; clear hK39 K39
    refine wpOs_step rfl fun K40 hK40 => ?_
    (try simp only [go_sem, h65, r13_5, r13_6, q13_0, d1, f38_5])
    refine hK40 _ _ _ ?_; clear hK40 K40
    refine wpOs_end ?_
    refine hK37 _ _ _ ?_
    (try clear hK37 K37)
    refine wpE_ret ?_
    (try simp only [go_sem, h65, r13_5, r13_6, q13_0, d1, f38_5])
    refine fin_ret1 rfl ?_
    (try simp only [go_sem, h65, r13_5, r13_6, q13_0, d1, f38_5])
    -- leaf 0
    subst hge; exact told_flat rfl (by simp [FV])
def fpE (s : ByteArray) (x : Int) : Int := eiF [if decide ((s.size : Int) ≤ 40000) then 0 else 2, if decide (0 ≤ x ∧ x ≤ 65520) then 0 else 3]
theorem fpE_2 {s : ByteArray} {x : Int} (h : 40000 < s.size) : fpE s x = 2 := by
  unfold fpE; rw [decide_eq_false (by omega)]; simp [eiF]
theorem fpE_3 {s : ByteArray} {x : Int} (h : s.size ≤ 40000) (hx : 0 ≤ x → 65520 < x) : fpE s x = 3 := by
  unfold fpE; rw [decide_eq_true (by omega), decide_eq_false (by omega)]; simp [eiF]
theorem fpE_0 {s : ByteArray} {x : Int} (h : s.size ≤ 40000) (hx : 0 ≤ x ∧ x ≤ 65520) : fpE s x = 0 := by
  unfold fpE; rw [decide_eq_true (by omega), decide_eq_true hx]; simp [eiF]
set_option maxHeartbeats 4000000 in
theorem fingerprintOf_fun (s : ByteArray) (x : Int) (hn : s.size ≤ 40010) : Fun Tryd.prog 6 [.str s, .int .i64 x] (.tuple [.int .i64 (if fpE s x = 0 then prF s x s.size else 0), .int .i64 (fpE s x)]) [] := by
  refine fun_walk (kk := 1000000) prog_ok (show Tryd.prog.funcs[6]? = some Tryd.f6 by kernel_rfl) (show Tryd.f6.body = some _ from rfl) (by kernel_rfl) (by show 2 ≤ _; decide) (by simp) ?_
  refine wpE_seq fun K1 hK1 => ?_
  -- region 0
  refine wpE_gen fun ρ2 e2 => ?_
  have f2_0 := congrFun e2 0
  (simp only [go_sem] at f2_0)
  have f2_1 := congrFun e2 1
  (simp only [go_sem] at f2_1)
  clear e2
  refine wpE_region ?_
  refine wpOs_step rfl fun K3 hK3 => ?_
  (try simp only [go_sem, f2_0, f2_1])
  refine hK3 _ _ _ ?_; clear hK3 K3
  refine wpOs_step rfl fun K4 hK4 => ?_
  (try simp only [go_sem, f2_0, f2_1])
  refine hK4 _ _ _ ?_; clear hK4 K4
  refine wpOs_end ?_
  refine hK1 _ _ _ ?_
  (try clear hK1 K1)
  refine wpE_seq fun K5 hK5 => ?_
  refine wpE_seq fun K6 hK6 => ?_
  -- region 1
  refine wpE_gen fun ρ7 e7 => ?_
  have f7_0 := congrFun e7 0
  (simp only [go_sem, f2_0, f2_1] at f7_0)
  have f7_1 := congrFun e7 1
  (simp only [go_sem, f2_0, f2_1] at f7_1)
  clear e7
  refine wpE_region ?_
  refine wpOs_step rfl fun K8 hK8 => ?_
  (try simp only [go_sem, f7_0, f7_1])
  refine hK8 _ _ _ ?_; clear hK8 K8
  refine wpOs_step rfl fun K9 hK9 => ?_
  (try simp only [go_sem, f7_0, f7_1])
  refine hK9 _ _ _ ?_; clear hK9 K9
  refine wpOs_step rfl fun K10 hK10 => ?_
  (try simp only [go_sem, f7_0, f7_1])
  refine hK10 _ _ _ ?_; clear hK10 K10
  refine wpOs_step rfl fun K11 hK11 => ?_
  (try simp only [go_sem, f7_0, f7_1])
  refine call_fun (unless_fun _ _) rfl rfl (fun _ => rfl) ?_
  (try simp only [go_sem, f7_0, f7_1])
  refine hK11 _ _ _ ?_; clear hK11 K11
  refine wpOs_step rfl fun K12 hK12 => ?_
  (try simp only [go_sem, f7_0, f7_1])
  refine hK12 _ _ _ ?_; clear hK12 K12
  refine wpOs_step rfl fun K13 hK13 => ?_
  (try simp only [go_sem, f7_0, f7_1])
  refine call_fun (in_fun _ _ _) rfl rfl (fun _ => rfl) ?_
  (try simp only [go_sem, f7_0, f7_1])
  refine hK13 _ _ _ ?_; clear hK13 K13
  refine wpOs_step rfl fun K14 hK14 => ?_
  (try simp only [go_sem, f7_0, f7_1])
  refine call_fun (unless_fun _ _) rfl rfl (fun _ => rfl) ?_
  (try simp only [go_sem, f7_0, f7_1])
  refine hK14 _ _ _ ?_; clear hK14 K14
  refine wpOs_step rfl fun K15 hK15 => ?_
  (try simp only [go_sem, f7_0, f7_1])
  refine hK15 _ _ _ ?_; clear hK15 K15
  refine wpOs_step rfl fun K16 hK16 => ?_
  (try simp only [go_sem, f7_0, f7_1])
  refine call_bor (either_fun [if decide ((s.size : Int) ≤ 40000) then 0 else 2, if decide (0 ≤ x ∧ x ≤ 65520) then 0 else 3] (by simp)) (.cn (FV.of_slice rfl (by rw [hL_get]; rfl) (by simp) (.cn .i (.cn .i .nl))) .nl) rfl (by simp) ?_
  simp only [shift, pushes]
  have hei : eiF [if decide ((s.size : Int) ≤ 40000) then 0 else 2, if decide (0 ≤ x ∧ x ≤ 65520) then 0 else 3] = fpE s x := rfl
  rw [hei]
  (try simp only [go_sem, f7_0, f7_1])
  refine hK16 _ _ _ ?_; clear hK16 K16
  refine wpOs_step rfl fun K17 hK17 => ?_
  (try simp only [go_sem, f7_0, f7_1])
  refine hK17 _ _ _ ?_; clear hK17 K17
  refine wpOs_end ?_
  refine hK6 _ _ _ ?_
  (try clear hK6 K6)
  refine wpE_seq fun K18 hK18 => ?_
  -- region 2
  refine wpE_gen fun ρ19 e19 => ?_
  have f19_0 := congrFun e19 0
  (simp only [go_sem, f7_0, f7_1] at f19_0)
  have f19_1 := congrFun e19 1
  (simp only [go_sem, f7_0, f7_1] at f19_1)
  have f19_6 := congrFun e19 6
  (simp only [go_sem, f7_0, f7_1] at f19_6)
  clear e19
  refine wpE_region ?_
  refine wpOs_step rfl fun K20 hK20 => ?_
  (try simp only [go_sem, f19_0, f19_1, f19_6])
  refine hK20 _ _ _ ?_; clear hK20 K20
  refine wpOs_step rfl fun K21 hK21 => ?_
  (try simp only [go_sem, f19_0, f19_1, f19_6])
  refine hK21 _ _ _ ?_; clear hK21 K21
  refine wpOs_end ?_
  refine hK18 _ _ _ ?_
  (try clear hK18 K18)
  refine wpE_cond' ?_
  (try simp only [go_sem, f19_0, f19_1, f19_6])
  refine branch_by (fun d1 => ?_) (fun d1 => ?_)
  · skip
    refine wpE_seq fun K22 hK22 => ?_
    -- region 3
    refine wpE_gen fun ρ23 e23 => ?_
    have f23_6 := congrFun e23 6
    (simp only [go_sem, f19_0, f19_1, f19_6, d1] at f23_6)
    clear e23
    refine wpE_region ?_
    refine wpOs_step rfl fun K24 hK24 => ?_
    (try simp only [go_sem, d1, f23_6])
    refine hK24 _ _ _ ?_; clear hK24 K24
    refine wpOs_step rfl fun K25 hK25 => ?_
    (try simp only [go_sem, d1, f23_6])
    refine hK25 _ _ _ ?_; clear hK25 K25
    refine wpOs_step rfl fun K26 hK26 => ?_
    (try simp only [go_sem, d1, f23_6])
    refine hK26 _ _ _ ?_; clear hK26 K26
    refine wpOs_end ?_
    refine hK22 _ _ _ ?_
    (try clear hK22 K22)
    refine wpE_ret ?_
    (try simp only [go_sem, d1, f23_6])
    refine fin_ret2 rfl ?_
    (try simp only [go_sem, d1, f23_6])
    -- leaf 0
    refine told_flat (congrArg _ ?_) (by simp [FV, FVs])
    simp at d1
    rw [if_neg d1]
  · skip
    refine wpE_skip ?_
    (try simp only [go_sem])
    refine hK5 _ _ _ ?_
    (try clear hK5 K5)
    refine wpE_seq fun K27 hK27 => ?_
    -- region 4
    refine wpE_gen fun ρ28 e28 => ?_
    have f28_0 := congrFun e28 0
    (simp only [go_sem, f19_0, f19_1, f19_6, d1] at f28_0)
    have f28_1 := congrFun e28 1
    (simp only [go_sem, f19_0, f19_1, f19_6, d1] at f28_1)
    clear e28
    refine wpE_region ?_
    refine wpOs_step rfl fun K29 hK29 => ?_
    (try simp only [go_sem, d1, f28_0, f28_1])
    refine hK29 _ _ _ ?_; clear hK29 K29
    refine wpOs_step rfl fun K30 hK30 => ?_
    (try simp only [go_sem, d1, f28_0, f28_1])
    refine hK30 _ _ _ ?_; clear hK30 K30
    refine wpOs_step rfl fun K31 hK31 => ?_
    (try simp only [go_sem, d1, f28_0, f28_1])
    refine call_fun (fingerprint_fun _ _ hn) rfl rfl (fun _ => rfl) ?_
    (try simp only [go_sem, d1, f28_0, f28_1])
    refine hK31 _ _ _ ?_; clear hK31 K31
    refine wpOs_step rfl fun K32 hK32 => ?_
    (try simp only [go_sem, d1, f28_0, f28_1])
    refine hK32 _ _ _ ?_; clear hK32 K32
    refine wpOs_step rfl fun K33 hK33 => ?_
    (try simp only [go_sem, d1, f28_0, f28_1])
    refine hK33 _ _ _ ?_; clear hK33 K33
    refine wpOs_end ?_
    refine hK27 _ _ _ ?_
    (try clear hK27 K27)
    refine wpE_ret ?_
    (try simp only [go_sem, d1, f28_0, f28_1])
    refine fin_ret2 rfl ?_
    (try simp only [go_sem, d1, f28_0, f28_1])
    -- leaf 1
    refine told_flat (congrArg _ ?_) (by simp [FV, FVs])
    simp at d1
    rw [if_pos d1, d1]
set_option maxHeartbeats 4000000 in
theorem printsLaw_fun (s : ByteArray) (x : Int) : Fun Tryd.prog 3 [.str s, .int .i64 x] (.bool true) [] := by
  have h20 : ((2 : Int) = 0) = False := by decide
  have h30 : ((3 : Int) = 0) = False := by decide
  refine fun_walk (kk := 1000000) prog_ok (show Tryd.prog.funcs[3]? = some Tryd.f3 by kernel_rfl) (show Tryd.f3.body = some _ from rfl) (by kernel_rfl) (by show 2 ≤ _; decide) (by simp) ?_
  refine wpE_seq fun K1 hK1 => ?_
  -- region 0
  refine wpE_gen fun ρ2 e2 => ?_
  have f2_0 := congrFun e2 0
  (simp only [go_sem, h20, h30, eq_self, beq_self_eq_true] at f2_0)
  have f2_1 := congrFun e2 1
  (simp only [go_sem, h20, h30, eq_self, beq_self_eq_true] at f2_1)
  clear e2
  refine wpE_region ?_
  refine wpOs_step rfl fun K3 hK3 => ?_
  (try simp only [go_sem, h20, h30, eq_self, beq_self_eq_true, f2_0, f2_1])
  refine hK3 _ _ _ ?_; clear hK3 K3
  refine wpOs_end ?_
  refine hK1 _ _ _ ?_
  (try clear hK1 K1)
  refine wpE_seq fun K4 hK4 => ?_
  refine wpE_seq fun K5 hK5 => ?_
  -- region 1
  refine wpE_gen fun ρ6 e6 => ?_
  have f6_0 := congrFun e6 0
  (simp only [go_sem, h20, h30, eq_self, beq_self_eq_true, f2_0, f2_1] at f6_0)
  have f6_1 := congrFun e6 1
  (simp only [go_sem, h20, h30, eq_self, beq_self_eq_true, f2_0, f2_1] at f6_1)
  clear e6
  refine wpE_region ?_
  refine wpOs_step rfl fun K7 hK7 => ?_
  (try simp only [go_sem, h20, h30, eq_self, beq_self_eq_true, f6_0, f6_1])
  refine call_is (fun wf => awake_says _ wf) ?_
  (try simp only [go_sem, h20, h30, eq_self, beq_self_eq_true, f6_0, f6_1])
  refine hK7 _ _ _ ?_; clear hK7 K7
  refine wpOs_step rfl fun K8 hK8 => ?_
  (try simp only [go_sem, h20, h30, eq_self, beq_self_eq_true, f6_0, f6_1])
  refine hK8 _ _ _ ?_; clear hK8 K8
  refine wpOs_end ?_
  refine hK5 _ _ _ ?_
  (try clear hK5 K5)
  refine wpE_condF (by simp only [go_sem, h20, h30, eq_self, beq_self_eq_true, f6_0, f6_1]) ?_
  refine wpE_skip ?_
  (try simp only [go_sem])
  refine hK4 _ _ _ ?_
  (try clear hK4 K4)
  refine wpE_seq fun K9 hK9 => ?_
  refine wpE_gen fun ρ10 e10 => ?_
  have f10_0 := congrFun e10 0
  (simp only [go_sem, h20, h30, eq_self, beq_self_eq_true, f6_0, f6_1] at f10_0)
  have f10_1 := congrFun e10 1
  (simp only [go_sem, h20, h30, eq_self, beq_self_eq_true, f6_0, f6_1] at f10_1)
  clear e10
  have J9 : ∀ ρ' : Env, ∀ (h0 : ρ' 0 = ρ10 0) (h1 : ρ' 1 = ρ10 1) (hs : s.size ≤ 40010), K9 ρ' [] (hL []) := by
    intro ρ' h0 h1 hs
    have g0 := h0.trans f10_0
    have g1 := h1.trans f10_1
    refine hK9 _ _ _ ?_
    clear hK9 K9
    refine wpE_seq fun K11 hK11 => ?_
    -- region 5
    refine wpE_gen fun ρ12 e12 => ?_
    have f12_0 := congrFun e12 0
    (simp only [go_sem, h20, h30, eq_self, beq_self_eq_true, g0, g1] at f12_0)
    have f12_1 := congrFun e12 1
    (simp only [go_sem, h20, h30, eq_self, beq_self_eq_true, g0, g1] at f12_1)
    clear e12
    refine wpE_region ?_
    refine wpOs_step rfl fun K13 hK13 => ?_
    (try simp only [go_sem, h20, h30, eq_self, beq_self_eq_true, g0, g1, f12_0, f12_1])
    refine hK13 _ _ _ ?_; clear hK13 K13
    refine wpOs_step rfl fun K14 hK14 => ?_
    (try simp only [go_sem, h20, h30, eq_self, beq_self_eq_true, g0, g1, f12_0, f12_1])
    refine hK14 _ _ _ ?_; clear hK14 K14
    refine wpOs_step rfl fun K15 hK15 => ?_
    (try simp only [go_sem, h20, h30, eq_self, beq_self_eq_true, g0, g1, f12_0, f12_1])
    refine call_fun (fingerprintOf_fun s x hs) rfl rfl (fun _ => rfl) ?_
    (try simp only [go_sem, h20, h30, eq_self, beq_self_eq_true, g0, g1, f12_0, f12_1])
    refine hK15 _ _ _ ?_; clear hK15 K15
    refine wpOs_step rfl fun K16 hK16 => ?_
    (try simp only [go_sem, h20, h30, eq_self, beq_self_eq_true, g0, g1, f12_0, f12_1])
    refine hK16 _ _ _ ?_; clear hK16 K16
    refine wpOs_step rfl fun K17 hK17 => ?_
    (try simp only [go_sem, h20, h30, eq_self, beq_self_eq_true, g0, g1, f12_0, f12_1])
    refine hK17 _ _ _ ?_; clear hK17 K17
    refine wpOs_step rfl fun K18 hK18 => ?_
    (try simp only [go_sem, h20, h30, eq_self, beq_self_eq_true, g0, g1, f12_0, f12_1])
    refine hK18 _ _ _ ?_; clear hK18 K18
    refine wpOs_step rfl fun K19 hK19 => ?_
    (try simp only [go_sem, h20, h30, eq_self, beq_self_eq_true, g0, g1, f12_0, f12_1])
    refine hK19 _ _ _ ?_; clear hK19 K19
    refine wpOs_step rfl fun K20 hK20 => ?_
    (try simp only [go_sem, h20, h30, eq_self, beq_self_eq_true, g0, g1, f12_0, f12_1])
    refine hK20 _ _ _ ?_; clear hK20 K20
    refine wpOs_end ?_
    refine hK11 _ _ _ ?_
    (try clear hK11 K11)
    refine wpE_seq fun K21 hK21 => ?_
    refine wpE_seq fun K22 hK22 => ?_
    -- region 6
    refine wpE_gen fun ρ23 e23 => ?_
    have f23_0 := congrFun e23 0
    (simp only [go_sem, h20, h30, eq_self, beq_self_eq_true, g0, g1, f12_0, f12_1] at f23_0)
    have f23_1 := congrFun e23 1
    (simp only [go_sem, h20, h30, eq_self, beq_self_eq_true, g0, g1, f12_0, f12_1] at f23_1)
    have f23_5 := congrFun e23 5
    (simp only [go_sem, h20, h30, eq_self, beq_self_eq_true, g0, g1, f12_0, f12_1] at f23_5)
    have f23_6 := congrFun e23 6
    (simp only [go_sem, h20, h30, eq_self, beq_self_eq_true, g0, g1, f12_0, f12_1] at f23_6)
    clear e23
    refine wpE_region ?_
    refine wpOs_step rfl fun K24 hK24 => ?_
    (try simp only [go_sem, h20, h30, eq_self, beq_self_eq_true, g0, g1, f23_0, f23_1, f23_5, f23_6])
    refine hK24 _ _ _ ?_; clear hK24 K24
    refine wpOs_step rfl fun K25 hK25 => ?_
    (try simp only [go_sem, h20, h30, eq_self, beq_self_eq_true, g0, g1, f23_0, f23_1, f23_5, f23_6])
    refine hK25 _ _ _ ?_; clear hK25 K25
    refine wpOs_step rfl fun K26 hK26 => ?_
    (try simp only [go_sem, h20, h30, eq_self, beq_self_eq_true, g0, g1, f23_0, f23_1, f23_5, f23_6])
    refine hK26 _ _ _ ?_; clear hK26 K26
    refine wpOs_end ?_
    refine hK22 _ _ _ ?_
    (try clear hK22 K22)
    refine wpE_cond' ?_
    (try simp only [go_sem, h20, h30, eq_self, beq_self_eq_true, g0, g1, f23_0, f23_1, f23_5, f23_6])
    refine branch_by (fun d1 => ?_) (fun d1 => ?_)
    · skip
      have hfp : fpE s x = 2 := fpE_2 (by simp at d1; omega)
      refine wpE_seq fun K27 hK27 => ?_
      -- region 7
      refine wpE_gen fun ρ28 e28 => ?_
      have f28_5 := congrFun e28 5
      (simp only [go_sem, h20, h30, eq_self, beq_self_eq_true, g0, g1, f23_0, f23_1, f23_5, f23_6, d1, hfp] at f28_5)
      have f28_6 := congrFun e28 6
      (simp only [go_sem, h20, h30, eq_self, beq_self_eq_true, g0, g1, f23_0, f23_1, f23_5, f23_6, d1, hfp] at f28_6)
      clear e28
      refine wpE_region ?_
      refine wpOs_step rfl fun K29 hK29 => ?_
      (try simp only [go_sem, h20, h30, eq_self, beq_self_eq_true, g0, g1, d1, hfp, f28_5, f28_6])
      refine hK29 _ _ _ ?_; clear hK29 K29
      refine wpOs_step rfl fun K30 hK30 => ?_
      (try simp only [go_sem, h20, h30, eq_self, beq_self_eq_true, g0, g1, d1, hfp, f28_5, f28_6])
      refine hK30 _ _ _ ?_; clear hK30 K30
      refine wpOs_step rfl fun K31 hK31 => ?_
      (try simp only [go_sem, h20, h30, eq_self, beq_self_eq_true, g0, g1, d1, hfp, f28_5, f28_6])
      refine hK31 _ _ _ ?_; clear hK31 K31
      refine wpOs_guard rfl rfl fun K32 hK32 => ?_
      (try simp only [go_sem, h20, h30, eq_self, beq_self_eq_true, g0, g1, d1, hfp, f28_5, f28_6])
      refine hK32 _ _ _ ?_; clear hK32 K32
      refine wpOs_guard rfl rfl fun K33 hK33 => ?_
      (try simp only [go_sem, h20, h30, eq_self, beq_self_eq_true, g0, g1, d1, hfp, f28_5, f28_6])
      refine hK33 _ _ _ ?_; clear hK33 K33
      refine wpOs_step rfl fun K34 hK34 => ?_
      (try simp only [go_sem, h20, h30, eq_self, beq_self_eq_true, g0, g1, d1, hfp, f28_5, f28_6])
      refine hK34 _ _ _ ?_; clear hK34 K34
      refine wpOs_step rfl fun K35 hK35 => ?_
      (try simp only [go_sem, h20, h30, eq_self, beq_self_eq_true, g0, g1, d1, hfp, f28_5, f28_6])
      refine hK35 _ _ _ ?_; clear hK35 K35
      refine wpOs_end ?_
      refine hK27 _ _ _ ?_
      (try clear hK27 K27)
      refine wpE_ret ?_
      (try simp only [go_sem, h20, h30, eq_self, beq_self_eq_true, g0, g1, d1, hfp, f28_5, f28_6])
      refine fin_ret1 rfl ?_
      (try simp only [go_sem, h20, h30, eq_self, beq_self_eq_true, g0, g1, d1, hfp, f28_5, f28_6])
      -- leaf 0
      exact told_flat rfl (by simp [FV])
    · skip
      have hl : s.size ≤ 40000 := by simp at d1; omega
      refine wpE_skip ?_
      (try simp only [go_sem])
      refine hK21 _ _ _ ?_
      (try clear hK21 K21)
      refine wpE_seq fun K36 hK36 => ?_
      refine wpE_seq fun K37 hK37 => ?_
      -- region 8
      refine wpE_gen fun ρ38 e38 => ?_
      have f38_0 := congrFun e38 0
      (simp only [go_sem, h20, h30, eq_self, beq_self_eq_true, g0, g1, f23_0, f23_1, f23_5, f23_6, d1] at f38_0)
      have f38_1 := congrFun e38 1
      (simp only [go_sem, h20, h30, eq_self, beq_self_eq_true, g0, g1, f23_0, f23_1, f23_5, f23_6, d1] at f38_1)
      have f38_5 := congrFun e38 5
      (simp only [go_sem, h20, h30, eq_self, beq_self_eq_true, g0, g1, f23_0, f23_1, f23_5, f23_6, d1] at f38_5)
      have f38_6 := congrFun e38 6
      (simp only [go_sem, h20, h30, eq_self, beq_self_eq_true, g0, g1, f23_0, f23_1, f23_5, f23_6, d1] at f38_6)
      clear e38
      refine wpE_region ?_
      refine wpOs_step rfl fun K39 hK39 => ?_
      (try simp only [go_sem, h20, h30, eq_self, beq_self_eq_true, g0, g1, d1, f38_0, f38_1, f38_5, f38_6])
      refine hK39 _ _ _ ?_; clear hK39 K39
      refine wpOs_step rfl fun K40 hK40 => ?_
      (try simp only [go_sem, h20, h30, eq_self, beq_self_eq_true, g0, g1, d1, f38_0, f38_1, f38_5, f38_6])
      refine call_fun (between_fun _ _ _) rfl rfl (fun _ => rfl) ?_
      (try simp only [go_sem, h20, h30, eq_self, beq_self_eq_true, g0, g1, d1, f38_0, f38_1, f38_5, f38_6])
      refine hK40 _ _ _ ?_; clear hK40 K40
      refine wpOs_step rfl fun K41 hK41 => ?_
      (try simp only [go_sem, h20, h30, eq_self, beq_self_eq_true, g0, g1, d1, f38_0, f38_1, f38_5, f38_6])
      refine hK41 _ _ _ ?_; clear hK41 K41
      refine wpOs_end ?_
      refine hK37 _ _ _ ?_
      (try clear hK37 K37)
      refine wpE_cond' ?_
      (try simp only [go_sem, h20, h30, eq_self, beq_self_eq_true, g0, g1, d1, f38_0, f38_1, f38_5, f38_6])
      refine branch_by (fun d2 => ?_) (fun d2 => ?_)
      · skip
        have hfp : fpE s x = 3 := fpE_3 hl (by simp at d2; omega)
        refine wpE_seq fun K42 hK42 => ?_
        -- region 9
        refine wpE_gen fun ρ43 e43 => ?_
        have f43_5 := congrFun e43 5
        (simp only [go_sem, h20, h30, eq_self, beq_self_eq_true, g0, g1, d1, f38_0, f38_1, f38_5, f38_6, d2, hfp] at f43_5)
        have f43_6 := congrFun e43 6
        (simp only [go_sem, h20, h30, eq_self, beq_self_eq_true, g0, g1, d1, f38_0, f38_1, f38_5, f38_6, d2, hfp] at f43_6)
        clear e43
        refine wpE_region ?_
        refine wpOs_step rfl fun K44 hK44 => ?_
        (try simp only [go_sem, h20, h30, eq_self, beq_self_eq_true, g0, g1, d1, d2, hfp, f43_5, f43_6])
        refine hK44 _ _ _ ?_; clear hK44 K44
        refine wpOs_step rfl fun K45 hK45 => ?_
        (try simp only [go_sem, h20, h30, eq_self, beq_self_eq_true, g0, g1, d1, d2, hfp, f43_5, f43_6])
        refine hK45 _ _ _ ?_; clear hK45 K45
        refine wpOs_step rfl fun K46 hK46 => ?_
        (try simp only [go_sem, h20, h30, eq_self, beq_self_eq_true, g0, g1, d1, d2, hfp, f43_5, f43_6])
        refine hK46 _ _ _ ?_; clear hK46 K46
        refine wpOs_guard rfl rfl fun K47 hK47 => ?_
        (try simp only [go_sem, h20, h30, eq_self, beq_self_eq_true, g0, g1, d1, d2, hfp, f43_5, f43_6])
        refine hK47 _ _ _ ?_; clear hK47 K47
        refine wpOs_guard rfl rfl fun K48 hK48 => ?_
        (try simp only [go_sem, h20, h30, eq_self, beq_self_eq_true, g0, g1, d1, d2, hfp, f43_5, f43_6])
        refine hK48 _ _ _ ?_; clear hK48 K48
        refine wpOs_step rfl fun K49 hK49 => ?_
        (try simp only [go_sem, h20, h30, eq_self, beq_self_eq_true, g0, g1, d1, d2, hfp, f43_5, f43_6])
        refine hK49 _ _ _ ?_; clear hK49 K49
        refine wpOs_step rfl fun K50 hK50 => ?_
        (try simp only [go_sem, h20, h30, eq_self, beq_self_eq_true, g0, g1, d1, d2, hfp, f43_5, f43_6])
        refine hK50 _ _ _ ?_; clear hK50 K50
        refine wpOs_end ?_
        refine hK42 _ _ _ ?_
        (try clear hK42 K42)
        refine wpE_ret ?_
        (try simp only [go_sem, h20, h30, eq_self, beq_self_eq_true, g0, g1, d1, d2, hfp, f43_5, f43_6])
        refine fin_ret1 rfl ?_
        (try simp only [go_sem, h20, h30, eq_self, beq_self_eq_true, g0, g1, d1, d2, hfp, f43_5, f43_6])
        -- leaf 1
        exact told_flat rfl (by simp [FV])
      · skip
        have hfp : fpE s x = 0 := fpE_0 hl (by simpa using d2)
        refine wpE_skip ?_
        (try simp only [go_sem])
        refine hK36 _ _ _ ?_
        (try clear hK36 K36)
        refine wpE_seq fun K51 hK51 => ?_
        -- region 10
        refine wpE_gen fun ρ52 e52 => ?_
        have f52_0 := congrFun e52 0
        (simp only [go_sem, h20, h30, eq_self, beq_self_eq_true, g0, g1, d1, f38_0, f38_1, f38_5, f38_6, d2, hfp] at f52_0)
        have f52_1 := congrFun e52 1
        (simp only [go_sem, h20, h30, eq_self, beq_self_eq_true, g0, g1, d1, f38_0, f38_1, f38_5, f38_6, d2, hfp] at f52_1)
        have f52_5 := congrFun e52 5
        (simp only [go_sem, h20, h30, eq_self, beq_self_eq_true, g0, g1, d1, f38_0, f38_1, f38_5, f38_6, d2, hfp] at f52_5)
        have f52_6 := congrFun e52 6
        (simp only [go_sem, h20, h30, eq_self, beq_self_eq_true, g0, g1, d1, f38_0, f38_1, f38_5, f38_6, d2, hfp] at f52_6)
        clear e52
        refine wpE_region ?_
        refine wpOs_step rfl fun K53 hK53 => ?_
        (try simp only [go_sem, h20, h30, eq_self, beq_self_eq_true, g0, g1, d1, d2, hfp, f52_0, f52_1, f52_5, f52_6])
        refine hK53 _ _ _ ?_; clear hK53 K53
        refine wpOs_step rfl fun K54 hK54 => ?_
        (try simp only [go_sem, h20, h30, eq_self, beq_self_eq_true, g0, g1, d1, d2, hfp, f52_0, f52_1, f52_5, f52_6])
        refine hK54 _ _ _ ?_; clear hK54 K54
        refine wpOs_step rfl fun K55 hK55 => ?_
        (try simp only [go_sem, h20, h30, eq_self, beq_self_eq_true, g0, g1, d1, d2, hfp, f52_0, f52_1, f52_5, f52_6])
        refine hK55 _ _ _ ?_; clear hK55 K55
        refine wpOs_guard rfl rfl fun K56 hK56 => ?_
        (try simp only [go_sem, h20, h30, eq_self, beq_self_eq_true, g0, g1, d1, d2, hfp, f52_0, f52_1, f52_5, f52_6])
        refine hK56 _ _ _ ?_; clear hK56 K56
        refine wpOs_guard rfl rfl fun K57 hK57 => ?_
        (try simp only [go_sem, h20, h30, eq_self, beq_self_eq_true, g0, g1, d1, d2, hfp, f52_0, f52_1, f52_5, f52_6])
        refine hK57 _ _ _ ?_; clear hK57 K57
        refine wpOs_guard rfl rfl fun K58 hK58 => ?_
        (try simp only [go_sem, h20, h30, eq_self, beq_self_eq_true, g0, g1, d1, d2, hfp, f52_0, f52_1, f52_5, f52_6])
        refine hK58 _ _ _ ?_; clear hK58 K58
        refine wpOs_guard rfl rfl fun K59 hK59 => ?_
        (try simp only [go_sem, h20, h30, eq_self, beq_self_eq_true, g0, g1, d1, d2, hfp, f52_0, f52_1, f52_5, f52_6])
        refine call_fun (print_fun _ _ hs) rfl rfl (fun _ => rfl) ?_
        (try simp only [go_sem, h20, h30, eq_self, beq_self_eq_true, g0, g1, d1, d2, hfp, f52_0, f52_1, f52_5, f52_6])
        refine hK59 _ _ _ ?_; clear hK59 K59
        refine wpOs_guard rfl rfl fun K60 hK60 => ?_
        (try simp only [go_sem, h20, h30, eq_self, beq_self_eq_true, g0, g1, d1, d2, hfp, f52_0, f52_1, f52_5, f52_6])
        refine hK60 _ _ _ ?_; clear hK60 K60
        refine wpOs_step rfl fun K61 hK61 => ?_
        (try simp only [go_sem, h20, h30, eq_self, beq_self_eq_true, g0, g1, d1, d2, hfp, f52_0, f52_1, f52_5, f52_6])
        refine hK61 _ _ _ ?_; clear hK61 K61
        refine wpOs_step rfl fun K62 hK62 => ?_
        (try simp only [go_sem, h20, h30, eq_self, beq_self_eq_true, g0, g1, d1, d2, hfp, f52_0, f52_1, f52_5, f52_6])
        refine hK62 _ _ _ ?_; clear hK62 K62
        refine wpOs_end ?_
        refine hK51 _ _ _ ?_
        (try clear hK51 K51)
        refine wpE_ret ?_
        (try simp only [go_sem, h20, h30, eq_self, beq_self_eq_true, g0, g1, d1, d2, hfp, f52_0, f52_1, f52_5, f52_6])
        refine fin_ret1 rfl ?_
        (try simp only [go_sem, h20, h30, eq_self, beq_self_eq_true, g0, g1, d1, d2, hfp, f52_0, f52_1, f52_5, f52_6])
        -- leaf 2
        exact told_flat rfl (by simp [FV])
  refine wpE_seq fun K63 hK63 => ?_
  -- region 3
  refine wpE_gen fun ρ64 e64 => ?_
  have f64_0 := congrFun e64 0
  (simp only [go_sem, h20, h30, eq_self, beq_self_eq_true, f10_0, f10_1] at f64_0)
  have f64_1 := congrFun e64 1
  (simp only [go_sem, h20, h30, eq_self, beq_self_eq_true, f10_0, f10_1] at f64_1)
  clear e64
  refine wpE_region ?_
  refine wpOs_step rfl fun K65 hK65 => ?_
  (try simp only [go_sem, h20, h30, eq_self, beq_self_eq_true, f64_0, f64_1])
  refine hK65 _ _ _ ?_; clear hK65 K65
  refine wpOs_step rfl fun K66 hK66 => ?_
  (try simp only [go_sem, h20, h30, eq_self, beq_self_eq_true, f64_0, f64_1])
  refine hK66 _ _ _ ?_; clear hK66 K66
  refine wpOs_step rfl fun K67 hK67 => ?_
  (try simp only [go_sem, h20, h30, eq_self, beq_self_eq_true, f64_0, f64_1])
  refine hK67 _ _ _ ?_; clear hK67 K67
  refine wpOs_step rfl fun K68 hK68 => ?_
  (try simp only [go_sem, h20, h30, eq_self, beq_self_eq_true, f64_0, f64_1])
  refine hK68 _ _ _ ?_; clear hK68 K68
  refine wpOs_guard rfl rfl fun K69 hK69 => ?_
  (try simp only [go_sem, h20, h30, eq_self, beq_self_eq_true, f64_0, f64_1])
  refine branch_by (fun d3 => ?_) (fun d3 => ?_)
  · skip
    (try simp only [go_sem, h20, h30, eq_self, beq_self_eq_true, f64_0, f64_1, d3])
    refine hK69 _ _ _ ?_; clear hK69 K69
    refine wpOs_guard rfl rfl fun K70 hK70 => ?_
    (try simp only [go_sem, h20, h30, eq_self, beq_self_eq_true, f64_0, f64_1, d3])
    refine hK70 _ _ _ ?_; clear hK70 K70
    refine wpOs_guard rfl rfl fun K71 hK71 => ?_
    (try simp only [go_sem, h20, h30, eq_self, beq_self_eq_true, f64_0, f64_1, d3])
    refine hK71 _ _ _ ?_; clear hK71 K71
    refine wpOs_step rfl fun K72 hK72 => ?_
    (try simp only [go_sem, h20, h30, eq_self, beq_self_eq_true, f64_0, f64_1, d3])
    refine hK72 _ _ _ ?_; clear hK72 K72
    refine wpOs_step rfl fun K73 hK73 => ?_
    (try simp only [go_sem, h20, h30, eq_self, beq_self_eq_true, f64_0, f64_1, d3])
    refine hK73 _ _ _ ?_; clear hK73 K73
    refine wpOs_guard rfl rfl fun K74 hK74 => ?_
    (try simp only [go_sem, h20, h30, eq_self, beq_self_eq_true, f64_0, f64_1, d3])
    refine branch_by (fun d4 => ?_) (fun d4 => ?_)
    · skip
      (try simp only [go_sem, h20, h30, eq_self, beq_self_eq_true, f64_0, f64_1, d3, d4])
      refine hK74 _ _ _ ?_; clear hK74 K74
      refine wpOs_guard rfl rfl fun K75 hK75 => ?_
      (try simp only [go_sem, h20, h30, eq_self, beq_self_eq_true, f64_0, f64_1, d3, d4])
      refine hK75 _ _ _ ?_; clear hK75 K75
      refine wpOs_guard rfl rfl fun K76 hK76 => ?_
      (try simp only [go_sem, h20, h30, eq_self, beq_self_eq_true, f64_0, f64_1, d3, d4])
      refine hK76 _ _ _ ?_; clear hK76 K76
      refine wpOs_step rfl fun K77 hK77 => ?_
      (try simp only [go_sem, h20, h30, eq_self, beq_self_eq_true, f64_0, f64_1, d3, d4])
      refine hK77 _ _ _ ?_; clear hK77 K77
      refine wpOs_end ?_
      refine hK63 _ _ _ ?_
      (try clear hK63 K63)
      refine wpE_condT (by simp only [go_sem, h20, h30, eq_self, beq_self_eq_true, f64_0, f64_1, d3, d4]) ?_
      refine wpE_seq fun K78 hK78 => ?_
      -- region 4
      refine wpE_gen fun ρ79 e79 => ?_
      clear e79
      refine wpE_region ?_
      refine wpOs_step rfl fun K80 hK80 => ?_
      (try simp only [go_sem, h20, h30, eq_self, beq_self_eq_true, d3, d4])
      refine hK80 _ _ _ ?_; clear hK80 K80
      refine wpOs_end ?_
      refine hK78 _ _ _ ?_
      (try clear hK78 K78)
      refine wpE_ret ?_
      (try simp only [go_sem, h20, h30, eq_self, beq_self_eq_true, d3, d4])
      refine fin_ret1 rfl ?_
      (try simp only [go_sem, h20, h30, eq_self, beq_self_eq_true, d3, d4])
      -- leaf 3
      exact told_flat rfl (by simp [FV])
    · skip
      (try simp only [go_sem, h20, h30, eq_self, beq_self_eq_true, f64_0, f64_1, d3, d4])
      refine hK74 _ _ _ ?_; clear hK74 K74
      refine wpOs_guard rfl rfl fun K81 hK81 => ?_
      (try simp only [go_sem, h20, h30, eq_self, beq_self_eq_true, f64_0, f64_1, d3, d4])
      refine hK81 _ _ _ ?_; clear hK81 K81
      refine wpOs_guard rfl rfl fun K82 hK82 => ?_
      (try simp only [go_sem, h20, h30, eq_self, beq_self_eq_true, f64_0, f64_1, d3, d4])
      refine hK82 _ _ _ ?_; clear hK82 K82
      refine wpOs_step rfl fun K83 hK83 => ?_
      (try simp only [go_sem, h20, h30, eq_self, beq_self_eq_true, f64_0, f64_1, d3, d4])
      refine hK83 _ _ _ ?_; clear hK83 K83
      refine wpOs_end ?_
      refine hK63 _ _ _ ?_
      (try clear hK63 K63)
      refine wpE_cond' ?_
      (try simp only [go_sem, h20, h30, eq_self, beq_self_eq_true, f64_0, f64_1, d3, d4])
      refine branch_by (fun d5 => ?_) (fun d5 => ?_)
      · skip
        refine wpE_seq fun K84 hK84 => ?_
        -- region 4
        refine wpE_gen fun ρ85 e85 => ?_
        clear e85
        refine wpE_region ?_
        refine wpOs_step rfl fun K86 hK86 => ?_
        (try simp only [go_sem, h20, h30, eq_self, beq_self_eq_true, d3, d4, d5])
        refine hK86 _ _ _ ?_; clear hK86 K86
        refine wpOs_end ?_
        refine hK84 _ _ _ ?_
        (try clear hK84 K84)
        refine wpE_ret ?_
        (try simp only [go_sem, h20, h30, eq_self, beq_self_eq_true, d3, d4, d5])
        refine fin_ret1 rfl ?_
        (try simp only [go_sem, h20, h30, eq_self, beq_self_eq_true, d3, d4, d5])
        -- leaf 4
        exact told_flat rfl (by simp [FV])
      · skip
        refine wpE_skip ?_
        (try simp only [go_sem])
        exact J9 _ (by first | rfl | (simp only [go_sem, h20, h30, eq_self, beq_self_eq_true, f64_0, f64_1, d3, d4, d5, f10_0, f10_1]; done) | (simp only [go_sem, h20, h30, eq_self, beq_self_eq_true, f64_0, f64_1, d3, d4, d5, f10_0, f10_1]; rfl)) (by first | rfl | (simp only [go_sem, h20, h30, eq_self, beq_self_eq_true, f64_0, f64_1, d3, d4, d5, f10_0, f10_1]; done) | (simp only [go_sem, h20, h30, eq_self, beq_self_eq_true, f64_0, f64_1, d3, d4, d5, f10_0, f10_1]; rfl)) (by first | omega | (simp_all; omega))
  · skip
    (try simp only [go_sem, h20, h30, eq_self, beq_self_eq_true, f64_0, f64_1, d3])
    refine hK69 _ _ _ ?_; clear hK69 K69
    refine wpOs_guard rfl rfl fun K87 hK87 => ?_
    (try simp only [go_sem, h20, h30, eq_self, beq_self_eq_true, f64_0, f64_1, d3])
    refine hK87 _ _ _ ?_; clear hK87 K87
    refine wpOs_guard rfl rfl fun K88 hK88 => ?_
    (try simp only [go_sem, h20, h30, eq_self, beq_self_eq_true, f64_0, f64_1, d3])
    refine hK88 _ _ _ ?_; clear hK88 K88
    refine wpOs_step rfl fun K89 hK89 => ?_
    (try simp only [go_sem, h20, h30, eq_self, beq_self_eq_true, f64_0, f64_1, d3])
    refine hK89 _ _ _ ?_; clear hK89 K89
    refine wpOs_step rfl fun K90 hK90 => ?_
    (try simp only [go_sem, h20, h30, eq_self, beq_self_eq_true, f64_0, f64_1, d3])
    refine hK90 _ _ _ ?_; clear hK90 K90
    refine wpOs_guard rfl rfl fun K91 hK91 => ?_
    (try simp only [go_sem, h20, h30, eq_self, beq_self_eq_true, f64_0, f64_1, d3])
    refine hK91 _ _ _ ?_; clear hK91 K91
    refine wpOs_guard rfl rfl fun K92 hK92 => ?_
    (try simp only [go_sem, h20, h30, eq_self, beq_self_eq_true, f64_0, f64_1, d3])
    refine hK92 _ _ _ ?_; clear hK92 K92
    refine wpOs_guard rfl rfl fun K93 hK93 => ?_
    (try simp only [go_sem, h20, h30, eq_self, beq_self_eq_true, f64_0, f64_1, d3])
    refine hK93 _ _ _ ?_; clear hK93 K93
    refine wpOs_step rfl fun K94 hK94 => ?_
    (try simp only [go_sem, h20, h30, eq_self, beq_self_eq_true, f64_0, f64_1, d3])
    refine hK94 _ _ _ ?_; clear hK94 K94
    refine wpOs_end ?_
    refine hK63 _ _ _ ?_
    (try clear hK63 K63)
    refine wpE_cond' ?_
    (try simp only [go_sem, h20, h30, eq_self, beq_self_eq_true, f64_0, f64_1, d3])
    refine branch_by (fun d6 => ?_) (fun d6 => ?_)
    · skip
      refine wpE_seq fun K95 hK95 => ?_
      -- region 4
      refine wpE_gen fun ρ96 e96 => ?_
      clear e96
      refine wpE_region ?_
      refine wpOs_step rfl fun K97 hK97 => ?_
      (try simp only [go_sem, h20, h30, eq_self, beq_self_eq_true, d3, d6])
      refine hK97 _ _ _ ?_; clear hK97 K97
      refine wpOs_end ?_
      refine hK95 _ _ _ ?_
      (try clear hK95 K95)
      refine wpE_ret ?_
      (try simp only [go_sem, h20, h30, eq_self, beq_self_eq_true, d3, d6])
      refine fin_ret1 rfl ?_
      (try simp only [go_sem, h20, h30, eq_self, beq_self_eq_true, d3, d6])
      -- leaf 5
      exact told_flat rfl (by simp [FV])
    · skip
      refine wpE_skip ?_
      (try simp only [go_sem])
      exact J9 _ (by first | rfl | (simp only [go_sem, h20, h30, eq_self, beq_self_eq_true, f64_0, f64_1, d3, d6, f10_0, f10_1]; done) | (simp only [go_sem, h20, h30, eq_self, beq_self_eq_true, f64_0, f64_1, d3, d6, f10_0, f10_1]; rfl)) (by first | rfl | (simp only [go_sem, h20, h30, eq_self, beq_self_eq_true, f64_0, f64_1, d3, d6, f10_0, f10_1]; done) | (simp only [go_sem, h20, h30, eq_self, beq_self_eq_true, f64_0, f64_1, d3, d6, f10_0, f10_1]; rfl)) (by first | omega | (simp_all; omega))
end Go.Ai
