/- Lists and formulas copied; the statement on formulas, walked. -/
import Derived.Test.YtjggaanpodbmpaaS3
import Derived.Test.YtjggaanpodbmpaaSolverAwake
namespace Go.Ai
open Go.Proofs
set_option linter.unusedVariables false
set_option linter.unusedSimpArgs false

theorem told_own {h : AH} {z : Nat} {v : AV} {cs : List AV} {n : Nat} (o : Own h z v cs) (hn : cs.length = n * z) (hz : 0 < z) (hs : FVs h (kap []) false true cs cs) : Told h v (.lst n cs) [] :=
  ⟨[], rfl, .nil, o.told (fun _ => rfl) hn hz hs, fun j cs h => by simp at h⟩
theorem app_wf {P : Program} {h : AH} {ts : List TypeId} {vs : List AV} {r : AV × AH} (e : builtinA P h .append ts vs = some r) (wf : h.WF) : r.2.WF := (appendA_wf (P := P) (h := h) (ats := ts) (args := vs) (r := r) e wf).1
theorem FV.ag {h : AH} {κ : Nat → Option Nat} {any d : Bool} {xs bs : List AV} (h1 : FVs h κ any d xs bs) : FV h κ any d (.agg xs) (.agg bs) := by simp only [FV]; exact ⟨_, rfl, h1⟩
theorem FV.i {h : AH} {κ : Nat → Option Nat} {any d : Bool} {k : IntKind} {n : Int} : FV h κ any d (.int k n) (.int k n) := by simp only [FV]
theorem FV.b {h : AH} {κ : Nat → Option Nat} {any d : Bool} {b : Bool} : FV h κ any d (.bool b) (.bool b) := by simp only [FV]
theorem ints_one (l : List Int) : (ints l).all AV.one = true := by simp [ints, List.all_map, Function.comp_def, AV.one]
theorem bools_one (l : List Bool) : (bools l).all AV.one = true := by simp [bools, List.all_map, Function.comp_def, AV.one]
theorem lsts_take {L : List (List Int)} {i : Nat} {l : List Int} (h : L[i]? = some l) : lsts (L.take (i + 1)) = lsts (L.take i) ++ [lst l] := by
  unfold lsts; rw [List.take_add_one, h]; simp
theorem sat_find {m : List Bool} : ∀ {L : List (List Int)} {i : Nat}, satF m i L = if findF (fun l => !l.any (holdsB m)) i L = -1 then (true, 0) else (false, findF (fun l => !l.any (holdsB m)) i L)
  | [], _ => rfl
  | l :: L, i => by
    have := sat_find (m := m) (L := L) (i := i + 1)
    by_cases h : l.any (holdsB m) = true
    · simp only [satF, findF, h]; simpa using this
    · simp only [satF, findF, h]; simp
theorem find_ge {α : Type} {p : α → Bool} : ∀ {L : List α} {i : Nat}, findF p i L = -1 ∨ findF p i L > -1
  | [], _ => .inl rfl
  | l :: L, i => by
    simp only [findF]; split
    · right; omega
    · exact find_ge
theorem satisfies_sat {n : Int} {L : List (List Int)} {m : List Bool} (h0 : (checkF n L).2 = 0) (hm : (m.length : Int) = n) : satisfiesF n L m = ((satF m 0 L).1, (satF m 0 L).2, 0) := by
  unfold satisfiesF
  rw [if_neg (by simp [h0]), if_neg (by simp [hm]), sat_find]
  have := find_ge (p := fun l => !l.any (holdsB m)) (L := L) (i := 0)
  by_cases h : findF (fun l => !l.any (holdsB m)) 0 L = -1
  · simp [h]
  · have h2 : findF (fun l => !l.any (holdsB m)) 0 L > -1 := by omega
    simp only []
    rw [if_pos h2, if_pos h, if_neg h]
theorem light_of {n : Int} {L : List (List Int)} (h : lightF n L = true) : L.length ≤ 60 ∧ ∀ l ∈ L, l.length ≤ 50 := by
  unfold lightF at h
  simp at h
  exact ⟨by omega, fun l hl => by have := h.2 l hl; omega⟩

set_option maxHeartbeats 4000000 in
theorem ownInts_fun (l : List Int) (hlen : l.length ≤ 1000000) : Fun Try.prog 32 [lst l] (lst l) [] := by
  refine fun_walk (kk := 1000000) prog_ok (show Try.prog.funcs[32]? = some Try.f32 by kernel_rfl) (show Try.f32.body = some _ from rfl) (by kernel_rfl) (by show 1 ≤ _; decide) (by simp) ?_
  refine wpE_seq fun K1 hK1 => ?_
  -- region 0
  refine wpE_gen fun ρ2 e2 => ?_
  have f2_0 := congrFun e2 0
  (simp only [go_sem] at f2_0)
  clear e2
  refine wpE_region ?_
  refine wpOs_step rfl fun K3 hK3 => ?_
  (try simp only [go_sem, f2_0])
  refine hK3 _ _ _ ?_; clear hK3 K3
  refine wpOs_end ?_
  refine hK1 _ _ _ ?_
  (try clear hK1 K1)
  refine wpE_seq fun K4 hK4 => ?_
  -- region 1
  refine wpE_gen fun ρ5 e5 => ?_
  have f5_0 := congrFun e5 0
  (simp only [go_sem, f2_0] at f5_0)
  clear e5
  refine wpE_region ?_
  refine wpOs_step rfl fun K6 hK6 => ?_
  (try simp only [go_sem, f5_0])
  refine hK6 _ _ _ ?_; clear hK6 K6
  refine wpOs_step rfl fun K7 hK7 => ?_
  (try simp only [go_sem, f5_0])
  refine hK7 _ _ _ ?_; clear hK7 K7
  refine wpOs_step rfl fun K8 hK8 => ?_
  (try simp only [go_sem, f5_0])
  obtain ⟨v', h', e, o, _⟩ := app_own ap38 (b := 0) (Nat.zero_le _) (v := .slice 0 0 0 (.exact 0)) (x := lst l) (m := l.length) (cs := []) (ns := ints l) (h := hL [.cells [] false]) (.inr (.inl ⟨rfl, 0, 0, [], rfl, by rw [hL_get]; rfl, by simp⟩)) (fun _ _ _ _ _ => Nat.zero_le _) ⟨by simp [ints], .inl rfl⟩ (by intro k hk; simp at hk; omega) (ints_one l)
  rw [e]
  simp only [go_sem]
  refine hK8 _ _ _ ?_; clear hK8 K8
  refine wpOs_step rfl fun K9 hK9 => ?_
  (try simp only [go_sem, f5_0])
  refine hK9 _ _ _ ?_; clear hK9 K9
  refine wpOs_end ?_
  refine hK4 _ _ _ ?_
  (try clear hK4 K4)
  refine wpE_ret ?_
  (try simp only [go_sem, f5_0])
  refine fin_ret1 rfl ?_
  (try simp only [go_sem, f5_0])
  -- leaf 0
  exact told_own o (by simp [ints]) (by decide) (FVs.self_map (fun x => by simp [FV]) l)
set_option maxHeartbeats 4000000 in
theorem ownLists_fun (L : List (List Int)) (hlen : L.length ≤ 1000000) (hl0 : ∀ l ∈ L, l.length ≤ 1000000) : Fun Try.prog 47 [lls L] (lls L) [] := by
  refine fun_walk (kk := 10000000) prog_ok (show Try.prog.funcs[47]? = some Try.f47 by kernel_rfl) (show Try.f47.body = some _ from rfl) (by kernel_rfl) (by show 1 ≤ _; decide) (by simp) ?_
  refine wpE_seq fun K1 hK1 => ?_
  -- region 0
  refine wpE_gen fun ρ2 e2 => ?_
  have f2_0 := congrFun e2 0
  (simp only [go_sem] at f2_0)
  clear e2
  refine wpE_region ?_
  refine wpOs_step rfl fun K3 hK3 => ?_
  (try simp only [go_sem, f2_0])
  refine hK3 _ _ _ ?_; clear hK3 K3
  refine wpOs_end ?_
  refine hK1 _ _ _ ?_
  (try clear hK1 K1)
  refine wpE_seq fun K4 hK4 => ?_
  -- region 1
  refine wpE_gen fun ρ5 e5 => ?_
  have f5_0 := congrFun e5 0
  (simp only [go_sem, f2_0] at f5_0)
  clear e5
  refine wpE_region ?_
  refine wpOs_step rfl fun K6 hK6 => ?_
  (try simp only [go_sem, f5_0])
  refine hK6 _ _ _ ?_; clear hK6 K6
  refine wpOs_end ?_
  refine hK4 _ _ _ ?_
  (try clear hK4 K4)
  refine wpE_seq fun K7 hK7 => ?_
  refine wpE_seq fun K8 hK8 => ?_
  -- region 2
  refine wpE_gen fun ρ9 e9 => ?_
  have f9_0 := congrFun e9 0
  (simp only [go_sem, f5_0] at f9_0)
  have f9_3 := congrFun e9 3
  (simp only [go_sem, f5_0] at f9_3)
  clear e9
  refine wpE_region ?_
  refine wpOs_step rfl fun K10 hK10 => ?_
  (try simp only [go_sem, f9_0, f9_3])
  refine hK10 _ _ _ ?_; clear hK10 K10
  refine wpOs_end ?_
  refine hK8 _ _ _ ?_
  (try clear hK8 K8)
  refine wpE_block ?_
  refine wpE_gen fun ρ11 e11 => ?_
  have f11_0 := congrFun e11 0
  (simp only [go_sem, f9_0, f9_3] at f11_0)
  have f11_3 := congrFun e11 3
  (simp only [go_sem, f9_0, f9_3] at f11_3)
  have f11_4 := congrFun e11 4
  (simp only [go_sem, f9_0, f9_3] at f11_4)
  clear e11
  refine wpE_loop (fun mm ρ df g => ∃ i : Nat, ∃ v3 : AV, mm = L.length - i ∧ df = [] ∧ ρ 3 = v3 ∧ ρ 4 = .int .i64 (i : Nat) ∧ ρ 0 = ρ11 0 ∧ i ≤ L.length ∧ g.WF ∧ Own g 1 v3 (lsts (L.take i))) (L.length) (by omega) ⟨0, .nilslice, rfl, rfl, (by first | rfl | (simp only [go_sem, f11_0, f11_3, f11_4]; done) | (simp only [go_sem, f11_0, f11_3, f11_4]; rfl)), (by first | rfl | (simp only [go_sem, f11_0, f11_3, f11_4]; done) | (simp only [go_sem, f11_0, f11_3, f11_4]; rfl)), rfl, (by omega), (by exact hL_wf _), (by exact Own.nil)⟩ ?_
  rintro m12 K12 hK12 ρ df g ⟨i, v3, hm12, rfl, r12_3, r12_4, q12_0, hi, hwf, ho⟩
  replace q12_0 := q12_0.trans f11_0
  refine wpE_seq fun K13 hK13 => ?_
  refine wpE_seq fun K14 hK14 => ?_
  -- region 3
  refine wpE_gen fun ρ15 e15 => ?_
  have f15_0 := congrFun e15 0
  (simp only [go_sem, r12_3, r12_4, q12_0] at f15_0)
  have f15_3 := congrFun e15 3
  (simp only [go_sem, r12_3, r12_4, q12_0] at f15_3)
  have f15_4 := congrFun e15 4
  (simp only [go_sem, r12_3, r12_4, q12_0] at f15_4)
  clear e15
  refine wpE_region ?_
  refine wpOs_step rfl fun K16 hK16 => ?_
  (try simp only [go_sem, r12_3, r12_4, q12_0, f15_0, f15_3, f15_4])
  refine hK16 _ _ _ ?_; clear hK16 K16
  refine wpOs_step rfl fun K17 hK17 => ?_
  (try simp only [go_sem, r12_3, r12_4, q12_0, f15_0, f15_3, f15_4])
  refine hK17 _ _ _ ?_; clear hK17 K17
  refine wpOs_step rfl fun K18 hK18 => ?_
  (try simp only [go_sem, r12_3, r12_4, q12_0, f15_0, f15_3, f15_4])
  refine hK18 _ _ _ ?_; clear hK18 K18
  refine wpOs_step rfl fun K19 hK19 => ?_
  (try simp only [go_sem, r12_3, r12_4, q12_0, f15_0, f15_3, f15_4])
  refine hK19 _ _ _ ?_; clear hK19 K19
  refine wpOs_end ?_
  refine hK14 _ _ _ ?_
  (try clear hK14 K14)
  refine wpE_cond' ?_
  (try simp only [go_sem, r12_3, r12_4, q12_0, f15_0, f15_3, f15_4])
  refine branch_by (fun d1 => ?_) (fun d1 => ?_)
  · skip
    have hlt : i < L.length := by simpa using d1
    obtain ⟨l, hl⟩ := has_at hlt
    have hmem : l ∈ L := List.mem_iff_getElem?.2 ⟨i, hl⟩
    refine wpE_skip ?_
    (try simp only [go_sem])
    refine hK13 _ _ _ ?_
    (try clear hK13 K13)
    refine wpE_seq fun K20 hK20 => ?_
    refine wpE_block ?_
    -- region 5
    refine wpE_gen fun ρ21 e21 => ?_
    have f21_0 := congrFun e21 0
    (simp only [go_sem, r12_3, r12_4, q12_0, f15_0, f15_3, f15_4, d1, hlt, hl] at f21_0)
    have f21_3 := congrFun e21 3
    (simp only [go_sem, r12_3, r12_4, q12_0, f15_0, f15_3, f15_4, d1, hlt, hl] at f21_3)
    have f21_4 := congrFun e21 4
    (simp only [go_sem, r12_3, r12_4, q12_0, f15_0, f15_3, f15_4, d1, hlt, hl] at f21_4)
    clear e21
    refine wpE_region ?_
    refine wpOs_step rfl fun K22 hK22 => ?_
    (try simp only [go_sem, r12_3, r12_4, q12_0, d1, hlt, hl, f21_0, f21_3, f21_4])
    refine hK22 _ _ _ ?_; clear hK22 K22
    refine wpOs_step rfl fun K23 hK23 => ?_
    (try simp only [go_sem, r12_3, r12_4, q12_0, d1, hlt, hl, f21_0, f21_3, f21_4])
    refine hK23 _ _ _ ?_; clear hK23 K23
    refine wpOs_step rfl fun K24 hK24 => ?_
    (try simp only [go_sem, r12_3, r12_4, q12_0, d1, hlt, hl, f21_0, f21_3, f21_4])
    refine hK24 _ _ _ ?_; clear hK24 K24
    refine wpOs_step rfl fun K25 hK25 => ?_
    (try simp only [go_sem, r12_3, r12_4, q12_0, d1, hlt, hl, f21_0, f21_3, f21_4])
    refine hK25 _ _ _ ?_; clear hK25 K25
    refine wpOs_step rfl fun K26 hK26 => ?_
    (try simp only [go_sem, r12_3, r12_4, q12_0, d1, hlt, hl, f21_0, f21_3, f21_4])
    refine hK26 _ _ _ ?_; clear hK26 K26
    refine wpOs_step rfl fun K27 hK27 => ?_
    (try simp only [go_sem, r12_3, r12_4, q12_0, d1, hlt, hl, f21_0, f21_3, f21_4])
    refine call_fun (ownInts_fun l (hl0 l hmem)) rfl rfl (fun _ => rfl) ?_
    (try simp only [go_sem, r12_3, r12_4, q12_0, d1, hlt, hl, f21_0, f21_3, f21_4])
    refine hK27 _ _ _ ?_; clear hK27 K27
    refine wpOs_step rfl fun K28 hK28 => ?_
    (try simp only [go_sem, r12_3, r12_4, q12_0, d1, hlt, hl, f21_0, f21_3, f21_4])
    refine hK28 _ _ _ ?_; clear hK28 K28
    refine wpOs_step rfl fun K29 hK29 => ?_
    (try simp only [go_sem, r12_3, r12_4, q12_0, d1, hlt, hl, f21_0, f21_3, f21_4])
    have hwp := hwf.push (.cells [lst l] false)
    obtain ⟨v', h', e, o, _⟩ := app_own ap22 (b := 0) (Nat.zero_le _) (ho.keep (h' := g.push (.cells [lst l] false)) (fun id hid => by rw [AH.get_push, if_neg (by omega)]) hwf) (fun _ _ _ _ _ => Nat.zero_le _) (x := .slice g.n 0 1 (.exact 1)) (m := 1) (ns := [lst l]) ⟨rfl, .inr (.inl ⟨g.n, _, [lst l], false, rfl, by rw [AH.get_push, if_pos rfl], rfl, by simp⟩)⟩ (by intro k hk; simp [lsts] at hk; omega) rfl
    have wf' := app_wf e hwp
    rw [e]
    simp only [go_sem]
    refine hK29 _ _ _ ?_; clear hK29 K29
    refine wpOs_step rfl fun K30 hK30 => ?_
    (try simp only [go_sem, r12_3, r12_4, q12_0, d1, hlt, hl, f21_0, f21_3, f21_4])
    refine hK30 _ _ _ ?_; clear hK30 K30
    refine wpOs_end ?_
    refine hK20 _ _ _ ?_
    (try clear hK20 K20)
    -- region 4
    refine wpE_gen fun ρ31 e31 => ?_
    have f31_0 := congrFun e31 0
    (simp only [go_sem, r12_3, r12_4, q12_0, d1, hlt, hl, f21_0, f21_3, f21_4] at f31_0)
    have f31_3 := congrFun e31 3
    (simp only [go_sem, r12_3, r12_4, q12_0, d1, hlt, hl, f21_0, f21_3, f21_4] at f31_3)
    have f31_4 := congrFun e31 4
    (simp only [go_sem, r12_3, r12_4, q12_0, d1, hlt, hl, f21_0, f21_3, f21_4] at f31_4)
    clear e31
    refine wpE_region ?_
    refine wpOs_step rfl fun K32 hK32 => ?_
    (try simp only [go_sem, r12_3, r12_4, q12_0, d1, hlt, hl, f31_0, f31_3, f31_4])
    refine hK32 _ _ _ ?_; clear hK32 K32
    refine wpOs_step rfl fun K33 hK33 => ?_
    (try simp only [go_sem, r12_3, r12_4, q12_0, d1, hlt, hl, f31_0, f31_3, f31_4])
    refine hK33 _ _ _ ?_; clear hK33 K33
    refine wpOs_step rfl fun K34 hK34 => ?_
    (try simp only [go_sem, r12_3, r12_4, q12_0, d1, hlt, hl, f31_0, f31_3, f31_4])
    refine hK34 _ _ _ ?_; clear hK34 K34
    refine wpOs_end ?_
    refine hK12 _ _ _ _ (by omega) ⟨i + 1, v', rfl, rfl, (by first | rfl | (simp only [go_sem, r12_3, r12_4, q12_0, d1, hlt, hl, f31_0, f31_3, f31_4, f11_0]; done) | (simp only [go_sem, r12_3, r12_4, q12_0, d1, hlt, hl, f31_0, f31_3, f31_4, f11_0]; rfl) | (simp only [go_sem, r12_3, r12_4, q12_0, d1, hlt, hl, f31_0, f31_3, f31_4, f11_0]; rw [wrap64 (by omega) (by omega)]; first | done | rfl | (congr 1; omega))), (by first | rfl | (simp only [go_sem, r12_3, r12_4, q12_0, d1, hlt, hl, f31_0, f31_3, f31_4, f11_0]; done) | (simp only [go_sem, r12_3, r12_4, q12_0, d1, hlt, hl, f31_0, f31_3, f31_4, f11_0]; rfl) | (simp only [go_sem, r12_3, r12_4, q12_0, d1, hlt, hl, f31_0, f31_3, f31_4, f11_0]; rw [wrap64 (by omega) (by omega)]; first | done | rfl | (congr 1; omega))), (by first | rfl | (simp only [go_sem, r12_3, r12_4, q12_0, d1, hlt, hl, f31_0, f31_3, f31_4, f11_0]; done) | (simp only [go_sem, r12_3, r12_4, q12_0, d1, hlt, hl, f31_0, f31_3, f31_4, f11_0]; rfl) | (simp only [go_sem, r12_3, r12_4, q12_0, d1, hlt, hl, f31_0, f31_3, f31_4, f11_0]; rw [wrap64 (by omega) (by omega)]; first | done | rfl | (congr 1; omega))), (by omega), (by exact wf'), (by rw [lsts_take hl]; exact o)⟩
  · skip
    have hge : i = L.length := by simp at d1; omega
    refine wpE_exit ?_
    (try simp only [go_sem])
    (try simp only [go_sem])
    refine hK7 _ _ _ ?_
    (try clear hK7 K7)
    refine wpE_seq fun K35 hK35 => ?_
    -- region 6
    refine wpE_gen fun ρ36 e36 => ?_
    have f36_3 := congrFun e36 3
    (simp only [go_sem, r12_3, r12_4, q12_0, f15_0, f15_3, f15_4, d1] at f36_3)
    clear e36
    refine wpE_region ?_
    refine wpOs_step rfl fun K37 hK37 => ?_
    (try simp only [go_sem, r12_3, r12_4, q12_0, d1, f36_3])
    refine hK37 _ _ _ ?_; clear hK37 K37
    refine wpOs_step rfl fun K38 hK38 => ?_
    (try simp only [go_sem, r12_3, r12_4, q12_0, d1, f36_3])
    refine hK38 _ _ _ ?_; clear hK38 K38
    refine wpOs_end ?_
    refine hK35 _ _ _ ?_
    (try clear hK35 K35)
    refine wpE_ret ?_
    (try simp only [go_sem, r12_3, r12_4, q12_0, d1, f36_3])
    refine fin_ret1 rfl ?_
    (try simp only [go_sem, r12_3, r12_4, q12_0, d1, f36_3])
    -- leaf 0
    rw [hge, List.take_length] at ho
    exact told_own ho (by simp [lsts]) (by decide) (FVs.self_map (fun l => FV.lst) L)
set_option maxHeartbeats 4000000 in
theorem own_fun (n : Int) (L : List (List Int)) (hlen : L.length ≤ 1000000) (hl0 : ∀ l ∈ L, l.length ≤ 1000000) : Fun Try.prog 15 [cl n L] (cl n L) [] := by
  refine fun_walk (kk := 1000000) prog_ok (show Try.prog.funcs[15]? = some Try.f15 by kernel_rfl) (show Try.f15.body = some _ from rfl) (by kernel_rfl) (by show 1 ≤ _; decide) (by simp) ?_
  refine wpE_seq fun K1 hK1 => ?_
  -- region 0
  refine wpE_gen fun ρ2 e2 => ?_
  have f2_0 := congrFun e2 0
  (simp only [go_sem] at f2_0)
  clear e2
  refine wpE_region ?_
  refine wpOs_step rfl fun K3 hK3 => ?_
  (try simp only [go_sem, f2_0])
  refine hK3 _ _ _ ?_; clear hK3 K3
  refine wpOs_step rfl fun K4 hK4 => ?_
  (try simp only [go_sem, f2_0])
  refine hK4 _ _ _ ?_; clear hK4 K4
  refine wpOs_end ?_
  refine hK1 _ _ _ ?_
  (try clear hK1 K1)
  refine wpE_seq fun K5 hK5 => ?_
  -- region 1
  refine wpE_gen fun ρ6 e6 => ?_
  have f6_1 := congrFun e6 1
  (simp only [go_sem, f2_0] at f6_1)
  have f6_2 := congrFun e6 2
  (simp only [go_sem, f2_0] at f6_2)
  clear e6
  refine wpE_draw [6] (by decide +kernel) ?_
  refine wpQs_step rfl fun K7 hK7 => ?_
  (try simp only [go_sem, f6_1, f6_2])
  refine hK7 _ _ _ ?_; clear hK7 K7
  refine wpQs_step rfl fun K8 hK8 => ?_
  (try simp only [go_sem, f6_1, f6_2])
  refine hK8 _ _ _ ?_; clear hK8 K8
  refine wpQs_step rfl fun K9 hK9 => ?_
  (try simp only [go_sem, f6_1, f6_2])
  refine hK9 _ _ _ ?_; clear hK9 K9
  refine wpQs_step rfl fun K10 hK10 => ?_
  (try simp only [go_sem, f6_1, f6_2])
  refine hK10 _ _ _ ?_; clear hK10 K10
  refine wpQs_step rfl fun K11 hK11 => ?_
  (try simp only [go_sem, f6_1, f6_2])
  refine call_fun (ownLists_fun L hlen hl0) rfl rfl (fun _ => rfl) ?_
  (try simp only [go_sem, f6_1, f6_2])
  refine hK11 _ _ _ ?_; clear hK11 K11
  refine wpQs_step rfl fun K12 hK12 => ?_
  (try simp only [go_sem, f6_1, f6_2])
  refine hK12 _ _ _ ?_; clear hK12 K12
  refine wpQs_step rfl fun K13 hK13 => ?_
  (try simp only [go_sem, f6_1, f6_2])
  refine hK13 _ _ _ ?_; clear hK13 K13
  refine wpQs_end ?_
  refine hK5 _ _ _ ?_
  (try clear hK5 K5)
  refine wpE_ret ?_
  (try simp only [go_sem, f6_1, f6_2])
  refine fin_ret (v := cl n L) (by show (mapOpt (resultE Try.prog _ _) [.cell 2 24]).map oneOr = some _; simp only [resultE, oneOr, go_sem, f6_1, f6_2]) ?_
  (try simp only [go_sem, f6_1, f6_2])
  -- leaf 0
  exact told_flat rfl (.ag (.cn .i (.cn .lst .nl)))
set_option maxHeartbeats 4000000 in
theorem formulasLaw_fun (n : Int) (L : List (List Int)) (hI : ∀ l ∈ L, ∀ x ∈ l, inI64 x) (hml : L.length ≤ maxLen) (m : List Bool) : Fun Try.prog 5 [cl n L, bls m] (.bool true) [] := by
  refine fun_walk (kk := 1000000) prog_ok (show Try.prog.funcs[5]? = some Try.f5 by kernel_rfl) (show Try.f5.body = some _ from rfl) (by kernel_rfl) (by show 2 ≤ _; decide) (by simp) ?_
  refine wpE_seq fun K1 hK1 => ?_
  -- region 0
  refine wpE_gen fun ρ2 e2 => ?_
  have f2_0 := congrFun e2 0
  (simp only [go_sem] at f2_0)
  have f2_1 := congrFun e2 1
  (simp only [go_sem] at f2_1)
  clear e2
  refine wpE_region ?_
  refine wpOs_step rfl fun K3 hK3 => ?_
  (try simp only [go_sem, f2_0, f2_1])
  refine hK3 _ _ _ ?_; clear hK3 K3
  refine wpOs_step rfl fun K4 hK4 => ?_
  (try simp only [go_sem, f2_0, f2_1])
  refine hK4 _ _ _ ?_; clear hK4 K4
  refine wpOs_end ?_
  refine hK1 _ _ _ ?_
  (try clear hK1 K1)
  refine wpE_seq fun K5 hK5 => ?_
  refine wpE_seq fun K6 hK6 => ?_
  -- region 1
  refine wpE_gen fun ρ7 e7 => ?_
  have f7_1 := congrFun e7 1
  (simp only [go_sem, f2_0, f2_1] at f7_1)
  have f7_2 := congrFun e7 2
  (simp only [go_sem, f2_0, f2_1] at f7_2)
  clear e7
  refine wpE_region ?_
  refine wpOs_step rfl fun K8 hK8 => ?_
  (try simp only [go_sem, f7_1, f7_2])
  refine call_is (fun wf => awake _ wf) ?_
  (try simp only [go_sem, f7_1, f7_2])
  refine hK8 _ _ _ ?_; clear hK8 K8
  refine wpOs_step rfl fun K9 hK9 => ?_
  (try simp only [go_sem, f7_1, f7_2])
  refine hK9 _ _ _ ?_; clear hK9 K9
  refine wpOs_end ?_
  refine hK6 _ _ _ ?_
  (try clear hK6 K6)
  refine wpE_condF (by simp only [go_sem, f7_1, f7_2]) ?_
  refine wpE_skip ?_
  (try simp only [go_sem])
  refine hK5 _ _ _ ?_
  (try clear hK5 K5)
  refine wpE_seq fun K10 hK10 => ?_
  refine wpE_seq fun K11 hK11 => ?_
  -- region 3
  refine wpE_gen fun ρ12 e12 => ?_
  have f12_1 := congrFun e12 1
  (simp only [go_sem, f7_1, f7_2] at f12_1)
  have f12_2 := congrFun e12 2
  (simp only [go_sem, f7_1, f7_2] at f12_2)
  clear e12
  refine wpE_region ?_
  refine wpOs_step rfl fun K13 hK13 => ?_
  (try simp only [go_sem, f12_1, f12_2])
  refine hK13 _ _ _ ?_; clear hK13 K13
  refine wpOs_step rfl fun K14 hK14 => ?_
  (try simp only [go_sem, f12_1, f12_2])
  refine call_fun (light_fun n L hml) rfl rfl (fun _ => rfl) ?_
  (try simp only [go_sem, f12_1, f12_2])
  refine hK14 _ _ _ ?_; clear hK14 K14
  refine wpOs_step rfl fun K15 hK15 => ?_
  (try simp only [go_sem, f12_1, f12_2])
  refine hK15 _ _ _ ?_; clear hK15 K15
  refine wpOs_step rfl fun K16 hK16 => ?_
  (try simp only [go_sem, f12_1, f12_2])
  refine hK16 _ _ _ ?_; clear hK16 K16
  refine wpOs_guard rfl rfl fun K17 hK17 => ?_
  (try simp only [go_sem, f12_1, f12_2])
  refine branch_by (fun d1 => ?_) (fun d1 => ?_)
  · skip
    (try simp only [go_sem, f12_1, f12_2, d1])
    refine hK17 _ _ _ ?_; clear hK17 K17
    refine wpOs_guard rfl rfl fun K18 hK18 => ?_
    (try simp only [go_sem, f12_1, f12_2, d1])
    refine hK18 _ _ _ ?_; clear hK18 K18
    refine wpOs_guard rfl rfl fun K19 hK19 => ?_
    (try simp only [go_sem, f12_1, f12_2, d1])
    refine hK19 _ _ _ ?_; clear hK19 K19
    refine wpOs_step rfl fun K20 hK20 => ?_
    (try simp only [go_sem, f12_1, f12_2, d1])
    refine hK20 _ _ _ ?_; clear hK20 K20
    refine wpOs_end ?_
    refine hK11 _ _ _ ?_
    (try clear hK11 K11)
    refine wpE_condT (by simp only [go_sem, f12_1, f12_2, d1]) ?_
    refine wpE_seq fun K21 hK21 => ?_
    -- region 4
    refine wpE_gen fun ρ22 e22 => ?_
    clear e22
    refine wpE_region ?_
    refine wpOs_step rfl fun K23 hK23 => ?_
    (try simp only [go_sem, d1])
    refine hK23 _ _ _ ?_; clear hK23 K23
    refine wpOs_end ?_
    refine hK21 _ _ _ ?_
    (try clear hK21 K21)
    refine wpE_ret ?_
    (try simp only [go_sem, d1])
    refine fin_ret1 rfl ?_
    (try simp only [go_sem, d1])
    -- leaf 0
    exact told_flat rfl (by simp [FV, FVs])
  · skip
    (try simp only [go_sem, f12_1, f12_2, d1])
    refine hK17 _ _ _ ?_; clear hK17 K17
    refine wpOs_guard rfl rfl fun K24 hK24 => ?_
    (try simp only [go_sem, f12_1, f12_2, d1])
    refine hK24 _ _ _ ?_; clear hK24 K24
    refine wpOs_guard rfl rfl fun K25 hK25 => ?_
    (try simp only [go_sem, f12_1, f12_2, d1])
    refine hK25 _ _ _ ?_; clear hK25 K25
    refine wpOs_step rfl fun K26 hK26 => ?_
    (try simp only [go_sem, f12_1, f12_2, d1])
    refine hK26 _ _ _ ?_; clear hK26 K26
    refine wpOs_end ?_
    refine hK11 _ _ _ ?_
    (try clear hK11 K11)
    refine wpE_cond' ?_
    (try simp only [go_sem, f12_1, f12_2, d1])
    refine branch_by (fun d2 => ?_) (fun d2 => ?_)
    · skip
      refine wpE_seq fun K27 hK27 => ?_
      -- region 4
      refine wpE_gen fun ρ28 e28 => ?_
      clear e28
      refine wpE_region ?_
      refine wpOs_step rfl fun K29 hK29 => ?_
      (try simp only [go_sem, d1, d2])
      refine hK29 _ _ _ ?_; clear hK29 K29
      refine wpOs_end ?_
      refine hK27 _ _ _ ?_
      (try clear hK27 K27)
      refine wpE_ret ?_
      (try simp only [go_sem, d1, d2])
      refine fin_ret1 rfl ?_
      (try simp only [go_sem, d1, d2])
      -- leaf 1
      exact told_flat rfl (by simp [FV, FVs])
    · skip
      have hlt : L.length ≤ 60 ∧ ∀ l ∈ L, l.length ≤ 50 := light_of (by simpa using d1)
      have hm500 : m.length ≤ 500 := by have := of_decide_eq_false d2; omega
      refine wpE_skip ?_
      (try simp only [go_sem])
      refine hK10 _ _ _ ?_
      (try clear hK10 K10)
      refine wpE_seq fun K30 hK30 => ?_
      -- region 5
      refine wpE_gen fun ρ31 e31 => ?_
      have f31_1 := congrFun e31 1
      (simp only [go_sem, f12_1, f12_2, d1, d2] at f31_1)
      have f31_2 := congrFun e31 2
      (simp only [go_sem, f12_1, f12_2, d1, d2] at f31_2)
      clear e31
      refine wpE_region ?_
      refine wpOs_step rfl fun K32 hK32 => ?_
      (try simp only [go_sem, d1, d2, f31_1, f31_2])
      refine hK32 _ _ _ ?_; clear hK32 K32
      refine wpOs_step rfl fun K33 hK33 => ?_
      (try simp only [go_sem, d1, d2, f31_1, f31_2])
      refine call_fun (own_fun n L (by omega) (fun l hl => by have := hlt.2 l hl; omega)) rfl rfl (fun _ => rfl) ?_
      (try simp only [go_sem, d1, d2, f31_1, f31_2])
      refine hK33 _ _ _ ?_; clear hK33 K33
      refine wpOs_step rfl fun K34 hK34 => ?_
      (try simp only [go_sem, d1, d2, f31_1, f31_2])
      refine call_fun (check_fun n L hI) rfl rfl (fun _ => rfl) ?_
      (try simp only [go_sem, d1, d2, f31_1, f31_2])
      refine hK34 _ _ _ ?_; clear hK34 K34
      refine wpOs_step rfl fun K35 hK35 => ?_
      (try simp only [go_sem, d1, d2, f31_1, f31_2])
      refine hK35 _ _ _ ?_; clear hK35 K35
      refine wpOs_step rfl fun K36 hK36 => ?_
      (try simp only [go_sem, d1, d2, f31_1, f31_2])
      refine hK36 _ _ _ ?_; clear hK36 K36
      refine wpOs_step rfl fun K37 hK37 => ?_
      (try simp only [go_sem, d1, d2, f31_1, f31_2])
      refine hK37 _ _ _ ?_; clear hK37 K37
      refine wpOs_step rfl fun K38 hK38 => ?_
      (try simp only [go_sem, d1, d2, f31_1, f31_2])
      refine hK38 _ _ _ ?_; clear hK38 K38
      refine wpOs_step rfl fun K39 hK39 => ?_
      (try simp only [go_sem, d1, d2, f31_1, f31_2])
      refine hK39 _ _ _ ?_; clear hK39 K39
      refine wpOs_end ?_
      refine hK30 _ _ _ ?_
      (try clear hK30 K30)
      refine wpE_seq fun K40 hK40 => ?_
      -- region 6
      refine wpE_gen fun ρ41 e41 => ?_
      have f41_1 := congrFun e41 1
      (simp only [go_sem, d1, d2, f31_1, f31_2] at f41_1)
      have f41_2 := congrFun e41 2
      (simp only [go_sem, d1, d2, f31_1, f31_2] at f41_2)
      have f41_5 := congrFun e41 5
      (simp only [go_sem, d1, d2, f31_1, f31_2] at f41_5)
      have f41_6 := congrFun e41 6
      (simp only [go_sem, d1, d2, f31_1, f31_2] at f41_6)
      clear e41
      refine wpE_region ?_
      refine wpOs_step rfl fun K42 hK42 => ?_
      (try simp only [go_sem, d1, d2, f41_1, f41_2, f41_5, f41_6])
      refine hK42 _ _ _ ?_; clear hK42 K42
      refine wpOs_step rfl fun K43 hK43 => ?_
      (try simp only [go_sem, d1, d2, f41_1, f41_2, f41_5, f41_6])
      refine call_fun (refCheck_fun n L hI) rfl rfl (fun _ => rfl) ?_
      (try simp only [go_sem, d1, d2, f41_1, f41_2, f41_5, f41_6])
      refine hK43 _ _ _ ?_; clear hK43 K43
      refine wpOs_step rfl fun K44 hK44 => ?_
      (try simp only [go_sem, d1, d2, f41_1, f41_2, f41_5, f41_6])
      refine hK44 _ _ _ ?_; clear hK44 K44
      refine wpOs_step rfl fun K45 hK45 => ?_
      (try simp only [go_sem, d1, d2, f41_1, f41_2, f41_5, f41_6])
      refine hK45 _ _ _ ?_; clear hK45 K45
      refine wpOs_step rfl fun K46 hK46 => ?_
      (try simp only [go_sem, d1, d2, f41_1, f41_2, f41_5, f41_6])
      refine hK46 _ _ _ ?_; clear hK46 K46
      refine wpOs_step rfl fun K47 hK47 => ?_
      (try simp only [go_sem, d1, d2, f41_1, f41_2, f41_5, f41_6])
      refine hK47 _ _ _ ?_; clear hK47 K47
      refine wpOs_step rfl fun K48 hK48 => ?_
      (try simp only [go_sem, d1, d2, f41_1, f41_2, f41_5, f41_6])
      refine hK48 _ _ _ ?_; clear hK48 K48
      refine wpOs_end ?_
      refine hK40 _ _ _ ?_
      (try clear hK40 K40)
      refine wpE_seq fun K49 hK49 => ?_
      refine wpE_seq fun K50 hK50 => ?_
      -- region 7
      refine wpE_gen fun ρ51 e51 => ?_
      have f51_1 := congrFun e51 1
      (simp only [go_sem, d1, d2, f41_1, f41_2, f41_5, f41_6] at f51_1)
      have f51_2 := congrFun e51 2
      (simp only [go_sem, d1, d2, f41_1, f41_2, f41_5, f41_6] at f51_2)
      have f51_5 := congrFun e51 5
      (simp only [go_sem, d1, d2, f41_1, f41_2, f41_5, f41_6] at f51_5)
      have f51_6 := congrFun e51 6
      (simp only [go_sem, d1, d2, f41_1, f41_2, f41_5, f41_6] at f51_6)
      have f51_7 := congrFun e51 7
      (simp only [go_sem, d1, d2, f41_1, f41_2, f41_5, f41_6] at f51_7)
      have f51_8 := congrFun e51 8
      (simp only [go_sem, d1, d2, f41_1, f41_2, f41_5, f41_6] at f51_8)
      clear e51
      refine wpE_region ?_
      refine wpOs_step rfl fun K52 hK52 => ?_
      (try simp only [go_sem, d1, d2, f51_1, f51_2, f51_5, f51_6, f51_7, f51_8])
      refine hK52 _ _ _ ?_; clear hK52 K52
      refine wpOs_step rfl fun K53 hK53 => ?_
      (try simp only [go_sem, d1, d2, f51_1, f51_2, f51_5, f51_6, f51_7, f51_8])
      refine hK53 _ _ _ ?_; clear hK53 K53
      refine wpOs_step rfl fun K54 hK54 => ?_
      (try simp only [go_sem, d1, d2, f51_1, f51_2, f51_5, f51_6, f51_7, f51_8])
      refine hK54 _ _ _ ?_; clear hK54 K54
      refine wpOs_step rfl fun K55 hK55 => ?_
      (try simp only [go_sem, d1, d2, f51_1, f51_2, f51_5, f51_6, f51_7, f51_8])
      refine hK55 _ _ _ ?_; clear hK55 K55
      refine wpOs_guard rfl rfl fun K56 hK56 => ?_
      (try simp only [go_sem, d1, d2, f51_1, f51_2, f51_5, f51_6, f51_7, f51_8])
      refine hK56 _ _ _ ?_; clear hK56 K56
      refine wpOs_guard rfl rfl fun K57 hK57 => ?_
      (try simp only [go_sem, d1, d2, f51_1, f51_2, f51_5, f51_6, f51_7, f51_8])
      refine hK57 _ _ _ ?_; clear hK57 K57
      refine wpOs_guard rfl rfl fun K58 hK58 => ?_
      (try simp only [go_sem, d1, d2, f51_1, f51_2, f51_5, f51_6, f51_7, f51_8])
      refine hK58 _ _ _ ?_; clear hK58 K58
      refine wpOs_step rfl fun K59 hK59 => ?_
      (try simp only [go_sem, d1, d2, f51_1, f51_2, f51_5, f51_6, f51_7, f51_8])
      refine hK59 _ _ _ ?_; clear hK59 K59
      refine wpOs_end ?_
      refine hK50 _ _ _ ?_
      (try clear hK50 K50)
      refine wpE_condF (by simp only [go_sem, d1, d2, f51_1, f51_2, f51_5, f51_6, f51_7, f51_8]) ?_
      refine wpE_skip ?_
      (try simp only [go_sem])
      refine hK49 _ _ _ ?_
      (try clear hK49 K49)
      refine wpE_seq fun K60 hK60 => ?_
      -- region 9
      refine wpE_gen fun ρ61 e61 => ?_
      have f61_1 := congrFun e61 1
      (simp only [go_sem, d1, d2, f51_1, f51_2, f51_5, f51_6, f51_7, f51_8] at f61_1)
      have f61_2 := congrFun e61 2
      (simp only [go_sem, d1, d2, f51_1, f51_2, f51_5, f51_6, f51_7, f51_8] at f61_2)
      have f61_8 := congrFun e61 8
      (simp only [go_sem, d1, d2, f51_1, f51_2, f51_5, f51_6, f51_7, f51_8] at f61_8)
      clear e61
      refine wpE_region ?_
      refine wpOs_step rfl fun K62 hK62 => ?_
      (try simp only [go_sem, d1, d2, f61_1, f61_2, f61_8])
      refine hK62 _ _ _ ?_; clear hK62 K62
      refine wpOs_step rfl fun K63 hK63 => ?_
      (try simp only [go_sem, d1, d2, f61_1, f61_2, f61_8])
      refine call_fun (own_fun n L (by omega) (fun l hl => by have := hlt.2 l hl; omega)) rfl rfl (fun _ => rfl) ?_
      (try simp only [go_sem, d1, d2, f61_1, f61_2, f61_8])
      refine hK63 _ _ _ ?_; clear hK63 K63
      refine wpOs_step rfl fun K64 hK64 => ?_
      (try simp only [go_sem, d1, d2, f61_1, f61_2, f61_8])
      refine hK64 _ _ _ ?_; clear hK64 K64
      refine wpOs_step rfl fun K65 hK65 => ?_
      (try simp only [go_sem, d1, d2, f61_1, f61_2, f61_8])
      refine hK65 _ _ _ ?_; clear hK65 K65
      refine wpOs_step rfl fun K66 hK66 => ?_
      (try simp only [go_sem, d1, d2, f61_1, f61_2, f61_8])
      obtain ⟨v', h', e, o, _, _, lo, _⟩ := app_own ap27 (b := 1) (by rw [hL_n]; simp) (v := .slice 1 0 0 (.exact 0)) (x := bls m) (m := m.length) (cs := []) (ns := bools m) (h := Go.Ai.hL [.cells [.int .i64 n, lls L] false, .cells [] false]) (.inr (.inl ⟨rfl, 1, 0, [], rfl, by rw [hL_get]; rfl, by simp⟩)) (fun _ _ _ _ e => by injection e with e; omega) ⟨by simp [bools], .inl rfl⟩ (by intro k hk; simp at hk; omega) (bools_one m)
      have hc0 : cellsAt h' 0 = some [.int .i64 n, lls L] := by unfold cellsAt; rw [lo 0 (by omega), hL_get]; rfl
      rw [e]
      simp only [go_sem]
      refine hK66 _ _ _ ?_; clear hK66 K66
      refine wpOs_step rfl fun K67 hK67 => ?_
      (try simp only [go_sem, d1, d2, f61_1, f61_2, f61_8])
      refine call_bor (satisfies_fun n L hI hlt.2 m) (.cn (.ag (.cn .i (.cn .lst .nl))) (.cn (o.told (fun _ => rfl) (by simp [bools]) (by decide) (FVs.self_map (fun b => .b) m)) .nl)) rfl (by simp) ?_
      (try simp only [go_sem, d1, d2, f61_1, f61_2, f61_8, hc0])
      refine hK67 _ _ _ ?_; clear hK67 K67
      refine wpOs_step rfl fun K68 hK68 => ?_
      (try simp only [go_sem, d1, d2, f61_1, f61_2, f61_8, hc0])
      refine hK68 _ _ _ ?_; clear hK68 K68
      refine wpOs_step rfl fun K69 hK69 => ?_
      (try simp only [go_sem, d1, d2, f61_1, f61_2, f61_8, hc0])
      refine hK69 _ _ _ ?_; clear hK69 K69
      refine wpOs_step rfl fun K70 hK70 => ?_
      (try simp only [go_sem, d1, d2, f61_1, f61_2, f61_8, hc0])
      refine hK70 _ _ _ ?_; clear hK70 K70
      refine wpOs_step rfl fun K71 hK71 => ?_
      (try simp only [go_sem, d1, d2, f61_1, f61_2, f61_8, hc0])
      refine hK71 _ _ _ ?_; clear hK71 K71
      refine wpOs_step rfl fun K72 hK72 => ?_
      (try simp only [go_sem, d1, d2, f61_1, f61_2, f61_8, hc0])
      refine hK72 _ _ _ ?_; clear hK72 K72
      refine wpOs_step rfl fun K73 hK73 => ?_
      (try simp only [go_sem, d1, d2, f61_1, f61_2, f61_8, hc0])
      refine hK73 _ _ _ ?_; clear hK73 K73
      refine wpOs_step rfl fun K74 hK74 => ?_
      (try simp only [go_sem, d1, d2, f61_1, f61_2, f61_8, hc0])
      refine hK74 _ _ _ ?_; clear hK74 K74
      refine wpOs_end ?_
      refine hK60 _ _ _ ?_
      (try clear hK60 K60)
      refine wpE_seq fun K75 hK75 => ?_
      refine wpE_seq fun K76 hK76 => ?_
      -- region 10
      refine wpE_gen fun ρ77 e77 => ?_
      have f77_1 := congrFun e77 1
      (simp only [go_sem, d1, d2, f61_1, f61_2, f61_8, hc0] at f77_1)
      have f77_2 := congrFun e77 2
      (simp only [go_sem, d1, d2, f61_1, f61_2, f61_8, hc0] at f77_2)
      have f77_8 := congrFun e77 8
      (simp only [go_sem, d1, d2, f61_1, f61_2, f61_8, hc0] at f77_8)
      have f77_9 := congrFun e77 9
      (simp only [go_sem, d1, d2, f61_1, f61_2, f61_8, hc0] at f77_9)
      have f77_10 := congrFun e77 10
      (simp only [go_sem, d1, d2, f61_1, f61_2, f61_8, hc0] at f77_10)
      have f77_11 := congrFun e77 11
      (simp only [go_sem, d1, d2, f61_1, f61_2, f61_8, hc0] at f77_11)
      clear e77
      refine wpE_region ?_
      refine wpOs_step rfl fun K78 hK78 => ?_
      (try simp only [go_sem, d1, d2, hc0, f77_1, f77_2, f77_8, f77_9, f77_10, f77_11])
      refine hK78 _ _ _ ?_; clear hK78 K78
      refine wpOs_step rfl fun K79 hK79 => ?_
      (try simp only [go_sem, d1, d2, hc0, f77_1, f77_2, f77_8, f77_9, f77_10, f77_11])
      refine hK79 _ _ _ ?_; clear hK79 K79
      refine wpOs_step rfl fun K80 hK80 => ?_
      (try simp only [go_sem, d1, d2, hc0, f77_1, f77_2, f77_8, f77_9, f77_10, f77_11])
      refine hK80 _ _ _ ?_; clear hK80 K80
      refine wpOs_guard rfl rfl fun K81 hK81 => ?_
      (try simp only [go_sem, d1, d2, hc0, f77_1, f77_2, f77_8, f77_9, f77_10, f77_11])
      refine branch_by (fun d3 => ?_) (fun d3 => ?_)
      · skip
        have h0 : (checkF n L).2 = 0 := by simpa using d3
        (try simp only [go_sem, d1, d2, hc0, f77_1, f77_2, f77_8, f77_9, f77_10, f77_11, d3, h0])
        refine hK81 _ _ _ ?_; clear hK81 K81
        refine wpOs_guard rfl rfl fun K82 hK82 => ?_
        (try simp only [go_sem, d1, d2, hc0, f77_1, f77_2, f77_8, f77_9, f77_10, f77_11, d3, h0])
        refine hK82 _ _ _ ?_; clear hK82 K82
        refine wpOs_guard rfl rfl fun K83 hK83 => ?_
        (try simp only [go_sem, d1, d2, hc0, f77_1, f77_2, f77_8, f77_9, f77_10, f77_11, d3, h0])
        refine hK83 _ _ _ ?_; clear hK83 K83
        refine wpOs_guard rfl rfl fun K84 hK84 => ?_
        (try simp only [go_sem, d1, d2, hc0, f77_1, f77_2, f77_8, f77_9, f77_10, f77_11, d3, h0])
        refine hK84 _ _ _ ?_; clear hK84 K84
        refine wpOs_guard rfl rfl fun K85 hK85 => ?_
        (try simp only [go_sem, d1, d2, hc0, f77_1, f77_2, f77_8, f77_9, f77_10, f77_11, d3, h0])
        refine hK85 _ _ _ ?_; clear hK85 K85
        refine wpOs_step rfl fun K86 hK86 => ?_
        (try simp only [go_sem, d1, d2, hc0, f77_1, f77_2, f77_8, f77_9, f77_10, f77_11, d3, h0])
        refine hK86 _ _ _ ?_; clear hK86 K86
        refine wpOs_end ?_
        refine hK76 _ _ _ ?_
        (try clear hK76 K76)
        refine wpE_cond' ?_
        (try simp only [go_sem, d1, d2, hc0, f77_1, f77_2, f77_8, f77_9, f77_10, f77_11, d3, h0])
        refine branch_by (fun d4 => ?_) (fun d4 => ?_)
        · skip
          have hm : (m.length : Int) ≠ n := by simpa using d4
          have hs : satisfiesF n L m = (false, 0, 6) := by unfold satisfiesF; rw [if_neg (by simp [h0]), if_pos hm]
          have hs1 := congrArg (·.1) hs; have hs2 := congrArg (·.2.1) hs; have hs3 := congrArg (·.2.2) hs; simp only [] at hs1 hs2 hs3
          -- region 11
          refine wpE_gen fun ρ87 e87 => ?_
          have f87_1 := congrFun e87 1
          (simp only [go_sem, d1, d2, hc0, f77_1, f77_2, f77_8, f77_9, f77_10, f77_11, d3, h0, d4, hs1, hs2, hs3] at f87_1)
          have f87_2 := congrFun e87 2
          (simp only [go_sem, d1, d2, hc0, f77_1, f77_2, f77_8, f77_9, f77_10, f77_11, d3, h0, d4, hs1, hs2, hs3] at f87_2)
          have f87_9 := congrFun e87 9
          (simp only [go_sem, d1, d2, hc0, f77_1, f77_2, f77_8, f77_9, f77_10, f77_11, d3, h0, d4, hs1, hs2, hs3] at f87_9)
          have f87_10 := congrFun e87 10
          (simp only [go_sem, d1, d2, hc0, f77_1, f77_2, f77_8, f77_9, f77_10, f77_11, d3, h0, d4, hs1, hs2, hs3] at f87_10)
          have f87_11 := congrFun e87 11
          (simp only [go_sem, d1, d2, hc0, f77_1, f77_2, f77_8, f77_9, f77_10, f77_11, d3, h0, d4, hs1, hs2, hs3] at f87_11)
          clear e87
          refine wpE_region ?_
          refine wpOs_step rfl fun K88 hK88 => ?_
          (try simp only [go_sem, d1, d2, hc0, d3, h0, d4, hs1, hs2, hs3, f87_1, f87_2, f87_9, f87_10, f87_11])
          refine hK88 _ _ _ ?_; clear hK88 K88
          refine wpOs_end ?_
          refine hK75 _ _ _ ?_
          (try clear hK75 K75)
          refine wpE_seq fun K89 hK89 => ?_
          refine wpE_seq fun K90 hK90 => ?_
          -- region 12
          have h60 : ((6 : Int) = 0) = False := by decide
          refine wpE_gen fun ρ91 e91 => ?_
          have f91_1 := congrFun e91 1
          (simp only [go_sem, d1, d2, hc0, d3, h0, d4, hs1, hs2, hs3, f87_1, f87_2, f87_9, f87_10, f87_11, h60] at f91_1)
          have f91_2 := congrFun e91 2
          (simp only [go_sem, d1, d2, hc0, d3, h0, d4, hs1, hs2, hs3, f87_1, f87_2, f87_9, f87_10, f87_11, h60] at f91_2)
          have f91_8 := congrFun e91 8
          (simp only [go_sem, d1, d2, hc0, d3, h0, d4, hs1, hs2, hs3, f87_1, f87_2, f87_9, f87_10, f87_11, h60] at f91_8)
          have f91_9 := congrFun e91 9
          (simp only [go_sem, d1, d2, hc0, d3, h0, d4, hs1, hs2, hs3, f87_1, f87_2, f87_9, f87_10, f87_11, h60] at f91_9)
          have f91_10 := congrFun e91 10
          (simp only [go_sem, d1, d2, hc0, d3, h0, d4, hs1, hs2, hs3, f87_1, f87_2, f87_9, f87_10, f87_11, h60] at f91_10)
          have f91_11 := congrFun e91 11
          (simp only [go_sem, d1, d2, hc0, d3, h0, d4, hs1, hs2, hs3, f87_1, f87_2, f87_9, f87_10, f87_11, h60] at f91_11)
          clear e91
          refine wpE_region ?_
          refine wpOs_step rfl fun K92 hK92 => ?_
          (try simp only [go_sem, d1, d2, hc0, d3, h0, d4, hs1, hs2, hs3, h60, f91_1, f91_2, f91_8, f91_9, f91_10, f91_11])
          refine hK92 _ _ _ ?_; clear hK92 K92
          refine wpOs_step rfl fun K93 hK93 => ?_
          (try simp only [go_sem, d1, d2, hc0, d3, h0, d4, hs1, hs2, hs3, h60, f91_1, f91_2, f91_8, f91_9, f91_10, f91_11])
          refine hK93 _ _ _ ?_; clear hK93 K93
          refine wpOs_end ?_
          refine hK90 _ _ _ ?_
          (try clear hK90 K90)
          refine wpE_condT (by simp only [go_sem, d1, d2, hc0, d3, h0, d4, hs1, hs2, hs3, h60, f91_1, f91_2, f91_8, f91_9, f91_10, f91_11]) ?_
          refine wpE_seq fun K94 hK94 => ?_
          -- region 13
          refine wpE_gen fun ρ95 e95 => ?_
          have f95_8 := congrFun e95 8
          (simp only [go_sem, d1, d2, hc0, d3, h0, d4, hs1, hs2, hs3, h60, f91_1, f91_2, f91_8, f91_9, f91_10, f91_11] at f95_8)
          have f95_9 := congrFun e95 9
          (simp only [go_sem, d1, d2, hc0, d3, h0, d4, hs1, hs2, hs3, h60, f91_1, f91_2, f91_8, f91_9, f91_10, f91_11] at f95_9)
          have f95_10 := congrFun e95 10
          (simp only [go_sem, d1, d2, hc0, d3, h0, d4, hs1, hs2, hs3, h60, f91_1, f91_2, f91_8, f91_9, f91_10, f91_11] at f95_10)
          have f95_11 := congrFun e95 11
          (simp only [go_sem, d1, d2, hc0, d3, h0, d4, hs1, hs2, hs3, h60, f91_1, f91_2, f91_8, f91_9, f91_10, f91_11] at f95_11)
          clear e95
          refine wpE_region ?_
          refine wpOs_step rfl fun K96 hK96 => ?_
          (try simp only [go_sem, d1, d2, hc0, d3, h0, d4, hs1, hs2, hs3, h60, f95_8, f95_9, f95_10, f95_11])
          refine hK96 _ _ _ ?_; clear hK96 K96
          refine wpOs_step rfl fun K97 hK97 => ?_
          (try simp only [go_sem, d1, d2, hc0, d3, h0, d4, hs1, hs2, hs3, h60, f95_8, f95_9, f95_10, f95_11])
          refine hK97 _ _ _ ?_; clear hK97 K97
          refine wpOs_step rfl fun K98 hK98 => ?_
          (try simp only [go_sem, d1, d2, hc0, d3, h0, d4, hs1, hs2, hs3, h60, f95_8, f95_9, f95_10, f95_11])
          refine hK98 _ _ _ ?_; clear hK98 K98
          refine wpOs_guard rfl rfl fun K99 hK99 => ?_
          (try simp only [go_sem, d1, d2, hc0, d3, h0, d4, hs1, hs2, hs3, h60, f95_8, f95_9, f95_10, f95_11])
          refine hK99 _ _ _ ?_; clear hK99 K99
          refine wpOs_guard rfl rfl fun K100 hK100 => ?_
          (try simp only [go_sem, d1, d2, hc0, d3, h0, d4, hs1, hs2, hs3, h60, f95_8, f95_9, f95_10, f95_11])
          refine hK100 _ _ _ ?_; clear hK100 K100
          refine wpOs_step rfl fun K101 hK101 => ?_
          (try simp only [go_sem, d1, d2, hc0, d3, h0, d4, hs1, hs2, hs3, h60, f95_8, f95_9, f95_10, f95_11])
          refine hK101 _ _ _ ?_; clear hK101 K101
          refine wpOs_step rfl fun K102 hK102 => ?_
          (try simp only [go_sem, d1, d2, hc0, d3, h0, d4, hs1, hs2, hs3, h60, f95_8, f95_9, f95_10, f95_11])
          refine hK102 _ _ _ ?_; clear hK102 K102
          refine wpOs_guard rfl rfl fun K103 hK103 => ?_
          (try simp only [go_sem, d1, d2, hc0, d3, h0, d4, hs1, hs2, hs3, h60, f95_8, f95_9, f95_10, f95_11])
          refine hK103 _ _ _ ?_; clear hK103 K103
          refine wpOs_guard rfl rfl fun K104 hK104 => ?_
          (try simp only [go_sem, d1, d2, hc0, d3, h0, d4, hs1, hs2, hs3, h60, f95_8, f95_9, f95_10, f95_11])
          refine hK104 _ _ _ ?_; clear hK104 K104
          refine wpOs_guard rfl rfl fun K105 hK105 => ?_
          (try simp only [go_sem, d1, d2, hc0, d3, h0, d4, hs1, hs2, hs3, h60, f95_8, f95_9, f95_10, f95_11])
          refine hK105 _ _ _ ?_; clear hK105 K105
          refine wpOs_step rfl fun K106 hK106 => ?_
          (try simp only [go_sem, d1, d2, hc0, d3, h0, d4, hs1, hs2, hs3, h60, f95_8, f95_9, f95_10, f95_11])
          refine hK106 _ _ _ ?_; clear hK106 K106
          refine wpOs_step rfl fun K107 hK107 => ?_
          (try simp only [go_sem, d1, d2, hc0, d3, h0, d4, hs1, hs2, hs3, h60, f95_8, f95_9, f95_10, f95_11])
          refine hK107 _ _ _ ?_; clear hK107 K107
          refine wpOs_end ?_
          refine hK94 _ _ _ ?_
          (try clear hK94 K94)
          refine wpE_ret ?_
          (try simp only [go_sem, d1, d2, hc0, d3, h0, d4, hs1, hs2, hs3, h60, f95_8, f95_9, f95_10, f95_11])
          refine fin_ret1 rfl ?_
          (try simp only [go_sem, d1, d2, hc0, d3, h0, d4, hs1, hs2, hs3, h60, f95_8, f95_9, f95_10, f95_11])
          -- leaf 2
          exact told_flat rfl (by simp [FV, FVs])
        · skip
          have hm : (m.length : Int) = n := by simpa using d4
          have hs := satisfies_sat (m := m) h0 hm
          have hs1 := congrArg (·.1) hs; have hs2 := congrArg (·.2.1) hs; have hs3 := congrArg (·.2.2) hs; simp only [] at hs1 hs2 hs3
          refine wpE_skip ?_
          (try simp only [go_sem])
          refine hK75 _ _ _ ?_
          (try clear hK75 K75)
          refine wpE_seq fun K108 hK108 => ?_
          refine wpE_seq fun K109 hK109 => ?_
          -- region 12
          have h60 : ((6 : Int) = 0) = False := by decide
          refine wpE_gen fun ρ110 e110 => ?_
          have f110_1 := congrFun e110 1
          (simp only [go_sem, d1, d2, hc0, f77_1, f77_2, f77_8, f77_9, f77_10, f77_11, d3, h0, d4, hs1, hs2, hs3, h60] at f110_1)
          have f110_2 := congrFun e110 2
          (simp only [go_sem, d1, d2, hc0, f77_1, f77_2, f77_8, f77_9, f77_10, f77_11, d3, h0, d4, hs1, hs2, hs3, h60] at f110_2)
          have f110_8 := congrFun e110 8
          (simp only [go_sem, d1, d2, hc0, f77_1, f77_2, f77_8, f77_9, f77_10, f77_11, d3, h0, d4, hs1, hs2, hs3, h60] at f110_8)
          have f110_9 := congrFun e110 9
          (simp only [go_sem, d1, d2, hc0, f77_1, f77_2, f77_8, f77_9, f77_10, f77_11, d3, h0, d4, hs1, hs2, hs3, h60] at f110_9)
          have f110_10 := congrFun e110 10
          (simp only [go_sem, d1, d2, hc0, f77_1, f77_2, f77_8, f77_9, f77_10, f77_11, d3, h0, d4, hs1, hs2, hs3, h60] at f110_10)
          have f110_11 := congrFun e110 11
          (simp only [go_sem, d1, d2, hc0, f77_1, f77_2, f77_8, f77_9, f77_10, f77_11, d3, h0, d4, hs1, hs2, hs3, h60] at f110_11)
          clear e110
          refine wpE_region ?_
          refine wpOs_step rfl fun K111 hK111 => ?_
          (try simp only [go_sem, d1, d2, hc0, d3, h0, d4, hs1, hs2, hs3, h60, f110_1, f110_2, f110_8, f110_9, f110_10, f110_11])
          refine hK111 _ _ _ ?_; clear hK111 K111
          refine wpOs_step rfl fun K112 hK112 => ?_
          (try simp only [go_sem, d1, d2, hc0, d3, h0, d4, hs1, hs2, hs3, h60, f110_1, f110_2, f110_8, f110_9, f110_10, f110_11])
          refine hK112 _ _ _ ?_; clear hK112 K112
          refine wpOs_end ?_
          refine hK109 _ _ _ ?_
          (try clear hK109 K109)
          refine wpE_condF (by simp only [go_sem, d1, d2, hc0, d3, h0, d4, hs1, hs2, hs3, h60, f110_1, f110_2, f110_8, f110_9, f110_10, f110_11]) ?_
          refine wpE_skip ?_
          (try simp only [go_sem])
          refine hK108 _ _ _ ?_
          (try clear hK108 K108)
          refine wpE_seq fun K113 hK113 => ?_
          -- region 14
          refine wpE_gen fun ρ114 e114 => ?_
          have f114_1 := congrFun e114 1
          (simp only [go_sem, d1, d2, hc0, d3, h0, d4, hs1, hs2, hs3, h60, f110_1, f110_2, f110_8, f110_9, f110_10, f110_11] at f114_1)
          have f114_2 := congrFun e114 2
          (simp only [go_sem, d1, d2, hc0, d3, h0, d4, hs1, hs2, hs3, h60, f110_1, f110_2, f110_8, f110_9, f110_10, f110_11] at f114_2)
          have f114_9 := congrFun e114 9
          (simp only [go_sem, d1, d2, hc0, d3, h0, d4, hs1, hs2, hs3, h60, f110_1, f110_2, f110_8, f110_9, f110_10, f110_11] at f114_9)
          have f114_10 := congrFun e114 10
          (simp only [go_sem, d1, d2, hc0, d3, h0, d4, hs1, hs2, hs3, h60, f110_1, f110_2, f110_8, f110_9, f110_10, f110_11] at f114_10)
          have f114_11 := congrFun e114 11
          (simp only [go_sem, d1, d2, hc0, d3, h0, d4, hs1, hs2, hs3, h60, f110_1, f110_2, f110_8, f110_9, f110_10, f110_11] at f114_11)
          clear e114
          refine wpE_region ?_
          refine wpOs_step rfl fun K115 hK115 => ?_
          (try simp only [go_sem, d1, d2, hc0, d3, h0, d4, hs1, hs2, hs3, h60, f114_1, f114_2, f114_9, f114_10, f114_11])
          refine hK115 _ _ _ ?_; clear hK115 K115
          refine wpOs_step rfl fun K116 hK116 => ?_
          (try simp only [go_sem, d1, d2, hc0, d3, h0, d4, hs1, hs2, hs3, h60, f114_1, f114_2, f114_9, f114_10, f114_11])
          refine hK116 _ _ _ ?_; clear hK116 K116
          refine wpOs_step rfl fun K117 hK117 => ?_
          (try simp only [go_sem, d1, d2, hc0, d3, h0, d4, hs1, hs2, hs3, h60, f114_1, f114_2, f114_9, f114_10, f114_11])
          refine hK117 _ _ _ ?_; clear hK117 K117
          refine wpOs_step rfl fun K118 hK118 => ?_
          (try simp only [go_sem, d1, d2, hc0, d3, h0, d4, hs1, hs2, hs3, h60, f114_1, f114_2, f114_9, f114_10, f114_11])
          refine call_fun (satisfied_fun m n hm (checkF_ok h0).1 L (checkF_lits h0) (fun l hl => clauseF_len ((checkF_ok h0).2.2 l hl)) (checkF_ok h0).2.1) rfl rfl (fun _ => rfl) ?_
          (try simp only [go_sem, d1, d2, hc0, d3, h0, d4, hs1, hs2, hs3, h60, f114_1, f114_2, f114_9, f114_10, f114_11])
          refine hK118 _ _ _ ?_; clear hK118 K118
          refine wpOs_step rfl fun K119 hK119 => ?_
          (try simp only [go_sem, d1, d2, hc0, d3, h0, d4, hs1, hs2, hs3, h60, f114_1, f114_2, f114_9, f114_10, f114_11])
          refine hK119 _ _ _ ?_; clear hK119 K119
          refine wpOs_step rfl fun K120 hK120 => ?_
          (try simp only [go_sem, d1, d2, hc0, d3, h0, d4, hs1, hs2, hs3, h60, f114_1, f114_2, f114_9, f114_10, f114_11])
          refine hK120 _ _ _ ?_; clear hK120 K120
          refine wpOs_step rfl fun K121 hK121 => ?_
          (try simp only [go_sem, d1, d2, hc0, d3, h0, d4, hs1, hs2, hs3, h60, f114_1, f114_2, f114_9, f114_10, f114_11])
          refine hK121 _ _ _ ?_; clear hK121 K121
          refine wpOs_step rfl fun K122 hK122 => ?_
          (try simp only [go_sem, d1, d2, hc0, d3, h0, d4, hs1, hs2, hs3, h60, f114_1, f114_2, f114_9, f114_10, f114_11])
          refine hK122 _ _ _ ?_; clear hK122 K122
          refine wpOs_step rfl fun K123 hK123 => ?_
          (try simp only [go_sem, d1, d2, hc0, d3, h0, d4, hs1, hs2, hs3, h60, f114_1, f114_2, f114_9, f114_10, f114_11])
          refine hK123 _ _ _ ?_; clear hK123 K123
          refine wpOs_end ?_
          refine hK113 _ _ _ ?_
          (try clear hK113 K113)
          refine wpE_seq fun K124 hK124 => ?_
          -- region 15
          refine wpE_gen fun ρ125 e125 => ?_
          have f125_9 := congrFun e125 9
          (simp only [go_sem, d1, d2, hc0, d3, h0, d4, hs1, hs2, hs3, h60, f114_1, f114_2, f114_9, f114_10, f114_11, beq_self_eq_true] at f125_9)
          have f125_10 := congrFun e125 10
          (simp only [go_sem, d1, d2, hc0, d3, h0, d4, hs1, hs2, hs3, h60, f114_1, f114_2, f114_9, f114_10, f114_11, beq_self_eq_true] at f125_10)
          have f125_11 := congrFun e125 11
          (simp only [go_sem, d1, d2, hc0, d3, h0, d4, hs1, hs2, hs3, h60, f114_1, f114_2, f114_9, f114_10, f114_11, beq_self_eq_true] at f125_11)
          have f125_12 := congrFun e125 12
          (simp only [go_sem, d1, d2, hc0, d3, h0, d4, hs1, hs2, hs3, h60, f114_1, f114_2, f114_9, f114_10, f114_11, beq_self_eq_true] at f125_12)
          have f125_13 := congrFun e125 13
          (simp only [go_sem, d1, d2, hc0, d3, h0, d4, hs1, hs2, hs3, h60, f114_1, f114_2, f114_9, f114_10, f114_11, beq_self_eq_true] at f125_13)
          clear e125
          refine wpE_region ?_
          refine wpOs_step rfl fun K126 hK126 => ?_
          (try simp only [go_sem, d1, d2, hc0, d3, h0, d4, hs1, hs2, hs3, h60, beq_self_eq_true, f125_9, f125_10, f125_11, f125_12, f125_13])
          refine hK126 _ _ _ ?_; clear hK126 K126
          refine wpOs_step rfl fun K127 hK127 => ?_
          (try simp only [go_sem, d1, d2, hc0, d3, h0, d4, hs1, hs2, hs3, h60, beq_self_eq_true, f125_9, f125_10, f125_11, f125_12, f125_13])
          refine hK127 _ _ _ ?_; clear hK127 K127
          refine wpOs_step rfl fun K128 hK128 => ?_
          (try simp only [go_sem, d1, d2, hc0, d3, h0, d4, hs1, hs2, hs3, h60, beq_self_eq_true, f125_9, f125_10, f125_11, f125_12, f125_13])
          refine hK128 _ _ _ ?_; clear hK128 K128
          refine wpOs_guard rfl rfl fun K129 hK129 => ?_
          (try simp only [go_sem, d1, d2, hc0, d3, h0, d4, hs1, hs2, hs3, h60, beq_self_eq_true, f125_9, f125_10, f125_11, f125_12, f125_13])
          refine hK129 _ _ _ ?_; clear hK129 K129
          refine wpOs_guard rfl rfl fun K130 hK130 => ?_
          (try simp only [go_sem, d1, d2, hc0, d3, h0, d4, hs1, hs2, hs3, h60, beq_self_eq_true, f125_9, f125_10, f125_11, f125_12, f125_13])
          refine hK130 _ _ _ ?_; clear hK130 K130
          refine wpOs_guard rfl rfl fun K131 hK131 => ?_
          (try simp only [go_sem, d1, d2, hc0, d3, h0, d4, hs1, hs2, hs3, h60, beq_self_eq_true, f125_9, f125_10, f125_11, f125_12, f125_13])
          refine hK131 _ _ _ ?_; clear hK131 K131
          refine wpOs_step rfl fun K132 hK132 => ?_
          (try simp only [go_sem, d1, d2, hc0, d3, h0, d4, hs1, hs2, hs3, h60, beq_self_eq_true, f125_9, f125_10, f125_11, f125_12, f125_13])
          refine hK132 _ _ _ ?_; clear hK132 K132
          refine wpOs_step rfl fun K133 hK133 => ?_
          (try simp only [go_sem, d1, d2, hc0, d3, h0, d4, hs1, hs2, hs3, h60, beq_self_eq_true, f125_9, f125_10, f125_11, f125_12, f125_13])
          refine hK133 _ _ _ ?_; clear hK133 K133
          refine wpOs_guard rfl rfl fun K134 hK134 => ?_
          (try simp only [go_sem, d1, d2, hc0, d3, h0, d4, hs1, hs2, hs3, h60, beq_self_eq_true, f125_9, f125_10, f125_11, f125_12, f125_13])
          refine hK134 _ _ _ ?_; clear hK134 K134
          refine wpOs_guard rfl rfl fun K135 hK135 => ?_
          (try simp only [go_sem, d1, d2, hc0, d3, h0, d4, hs1, hs2, hs3, h60, beq_self_eq_true, f125_9, f125_10, f125_11, f125_12, f125_13])
          refine hK135 _ _ _ ?_; clear hK135 K135
          refine wpOs_guard rfl rfl fun K136 hK136 => ?_
          (try simp only [go_sem, d1, d2, hc0, d3, h0, d4, hs1, hs2, hs3, h60, beq_self_eq_true, f125_9, f125_10, f125_11, f125_12, f125_13])
          refine hK136 _ _ _ ?_; clear hK136 K136
          refine wpOs_step rfl fun K137 hK137 => ?_
          (try simp only [go_sem, d1, d2, hc0, d3, h0, d4, hs1, hs2, hs3, h60, beq_self_eq_true, f125_9, f125_10, f125_11, f125_12, f125_13])
          refine hK137 _ _ _ ?_; clear hK137 K137
          refine wpOs_step rfl fun K138 hK138 => ?_
          (try simp only [go_sem, d1, d2, hc0, d3, h0, d4, hs1, hs2, hs3, h60, beq_self_eq_true, f125_9, f125_10, f125_11, f125_12, f125_13])
          refine hK138 _ _ _ ?_; clear hK138 K138
          refine wpOs_end ?_
          refine hK124 _ _ _ ?_
          (try clear hK124 K124)
          refine wpE_ret ?_
          (try simp only [go_sem, d1, d2, hc0, d3, h0, d4, hs1, hs2, hs3, h60, beq_self_eq_true, f125_9, f125_10, f125_11, f125_12, f125_13])
          refine fin_ret1 rfl ?_
          (try simp only [go_sem, d1, d2, hc0, d3, h0, d4, hs1, hs2, hs3, h60, beq_self_eq_true, f125_9, f125_10, f125_11, f125_12, f125_13])
          -- leaf 3
          exact told_flat rfl (by simp [FV, FVs])
      · skip
        have hne : (checkF n L).2 ≠ 0 := by simpa using d3
        have hs : satisfiesF n L m = (false, 0, (checkF n L).2) := by unfold satisfiesF; rw [if_pos hne]
        have hs1 := congrArg (·.1) hs; have hs2 := congrArg (·.2.1) hs; have hs3 := congrArg (·.2.2) hs; simp only [] at hs1 hs2 hs3
        (try simp only [go_sem, d1, d2, hc0, f77_1, f77_2, f77_8, f77_9, f77_10, f77_11, d3, hs1, hs2, hs3])
        refine hK81 _ _ _ ?_; clear hK81 K81
        refine wpOs_guard rfl rfl fun K139 hK139 => ?_
        (try simp only [go_sem, d1, d2, hc0, f77_1, f77_2, f77_8, f77_9, f77_10, f77_11, d3, hs1, hs2, hs3])
        refine hK139 _ _ _ ?_; clear hK139 K139
        refine wpOs_guard rfl rfl fun K140 hK140 => ?_
        (try simp only [go_sem, d1, d2, hc0, f77_1, f77_2, f77_8, f77_9, f77_10, f77_11, d3, hs1, hs2, hs3])
        refine hK140 _ _ _ ?_; clear hK140 K140
        refine wpOs_guard rfl rfl fun K141 hK141 => ?_
        (try simp only [go_sem, d1, d2, hc0, f77_1, f77_2, f77_8, f77_9, f77_10, f77_11, d3, hs1, hs2, hs3])
        refine hK141 _ _ _ ?_; clear hK141 K141
        refine wpOs_guard rfl rfl fun K142 hK142 => ?_
        (try simp only [go_sem, d1, d2, hc0, f77_1, f77_2, f77_8, f77_9, f77_10, f77_11, d3, hs1, hs2, hs3])
        refine hK142 _ _ _ ?_; clear hK142 K142
        refine wpOs_step rfl fun K143 hK143 => ?_
        (try simp only [go_sem, d1, d2, hc0, f77_1, f77_2, f77_8, f77_9, f77_10, f77_11, d3, hs1, hs2, hs3])
        refine hK143 _ _ _ ?_; clear hK143 K143
        refine wpOs_end ?_
        refine hK76 _ _ _ ?_
        (try clear hK76 K76)
        refine wpE_condF (by simp only [go_sem, d1, d2, hc0, f77_1, f77_2, f77_8, f77_9, f77_10, f77_11, d3, hs1, hs2, hs3]) ?_
        refine wpE_skip ?_
        (try simp only [go_sem])
        refine hK75 _ _ _ ?_
        (try clear hK75 K75)
        refine wpE_seq fun K144 hK144 => ?_
        refine wpE_seq fun K145 hK145 => ?_
        -- region 12
        have h60 : ((6 : Int) = 0) = False := by decide
        refine wpE_gen fun ρ146 e146 => ?_
        have f146_1 := congrFun e146 1
        (simp only [go_sem, d1, d2, hc0, f77_1, f77_2, f77_8, f77_9, f77_10, f77_11, d3, hs1, hs2, hs3, h60] at f146_1)
        have f146_2 := congrFun e146 2
        (simp only [go_sem, d1, d2, hc0, f77_1, f77_2, f77_8, f77_9, f77_10, f77_11, d3, hs1, hs2, hs3, h60] at f146_2)
        have f146_8 := congrFun e146 8
        (simp only [go_sem, d1, d2, hc0, f77_1, f77_2, f77_8, f77_9, f77_10, f77_11, d3, hs1, hs2, hs3, h60] at f146_8)
        have f146_9 := congrFun e146 9
        (simp only [go_sem, d1, d2, hc0, f77_1, f77_2, f77_8, f77_9, f77_10, f77_11, d3, hs1, hs2, hs3, h60] at f146_9)
        have f146_10 := congrFun e146 10
        (simp only [go_sem, d1, d2, hc0, f77_1, f77_2, f77_8, f77_9, f77_10, f77_11, d3, hs1, hs2, hs3, h60] at f146_10)
        have f146_11 := congrFun e146 11
        (simp only [go_sem, d1, d2, hc0, f77_1, f77_2, f77_8, f77_9, f77_10, f77_11, d3, hs1, hs2, hs3, h60] at f146_11)
        clear e146
        refine wpE_region ?_
        refine wpOs_step rfl fun K147 hK147 => ?_
        (try simp only [go_sem, d1, d2, hc0, d3, hs1, hs2, hs3, h60, f146_1, f146_2, f146_8, f146_9, f146_10, f146_11])
        refine hK147 _ _ _ ?_; clear hK147 K147
        refine wpOs_step rfl fun K148 hK148 => ?_
        (try simp only [go_sem, d1, d2, hc0, d3, hs1, hs2, hs3, h60, f146_1, f146_2, f146_8, f146_9, f146_10, f146_11])
        refine hK148 _ _ _ ?_; clear hK148 K148
        refine wpOs_end ?_
        refine hK145 _ _ _ ?_
        (try clear hK145 K145)
        refine wpE_condT (by simp only [go_sem, d1, d2, hc0, d3, hs1, hs2, hs3, h60, f146_1, f146_2, f146_8, f146_9, f146_10, f146_11]) ?_
        refine wpE_seq fun K149 hK149 => ?_
        -- region 13
        refine wpE_gen fun ρ150 e150 => ?_
        have f150_8 := congrFun e150 8
        (simp only [go_sem, d1, d2, hc0, d3, hs1, hs2, hs3, h60, f146_1, f146_2, f146_8, f146_9, f146_10, f146_11] at f150_8)
        have f150_9 := congrFun e150 9
        (simp only [go_sem, d1, d2, hc0, d3, hs1, hs2, hs3, h60, f146_1, f146_2, f146_8, f146_9, f146_10, f146_11] at f150_9)
        have f150_10 := congrFun e150 10
        (simp only [go_sem, d1, d2, hc0, d3, hs1, hs2, hs3, h60, f146_1, f146_2, f146_8, f146_9, f146_10, f146_11] at f150_10)
        have f150_11 := congrFun e150 11
        (simp only [go_sem, d1, d2, hc0, d3, hs1, hs2, hs3, h60, f146_1, f146_2, f146_8, f146_9, f146_10, f146_11] at f150_11)
        clear e150
        refine wpE_region ?_
        refine wpOs_step rfl fun K151 hK151 => ?_
        (try simp only [go_sem, d1, d2, hc0, d3, hs1, hs2, hs3, h60, f150_8, f150_9, f150_10, f150_11])
        refine hK151 _ _ _ ?_; clear hK151 K151
        refine wpOs_step rfl fun K152 hK152 => ?_
        (try simp only [go_sem, d1, d2, hc0, d3, hs1, hs2, hs3, h60, f150_8, f150_9, f150_10, f150_11])
        refine hK152 _ _ _ ?_; clear hK152 K152
        refine wpOs_step rfl fun K153 hK153 => ?_
        (try simp only [go_sem, d1, d2, hc0, d3, hs1, hs2, hs3, h60, f150_8, f150_9, f150_10, f150_11])
        refine hK153 _ _ _ ?_; clear hK153 K153
        refine wpOs_guard rfl rfl fun K154 hK154 => ?_
        (try simp only [go_sem, d1, d2, hc0, d3, hs1, hs2, hs3, h60, f150_8, f150_9, f150_10, f150_11])
        refine hK154 _ _ _ ?_; clear hK154 K154
        refine wpOs_guard rfl rfl fun K155 hK155 => ?_
        (try simp only [go_sem, d1, d2, hc0, d3, hs1, hs2, hs3, h60, f150_8, f150_9, f150_10, f150_11])
        refine hK155 _ _ _ ?_; clear hK155 K155
        refine wpOs_step rfl fun K156 hK156 => ?_
        (try simp only [go_sem, d1, d2, hc0, d3, hs1, hs2, hs3, h60, f150_8, f150_9, f150_10, f150_11])
        refine hK156 _ _ _ ?_; clear hK156 K156
        refine wpOs_step rfl fun K157 hK157 => ?_
        (try simp only [go_sem, d1, d2, hc0, d3, hs1, hs2, hs3, h60, f150_8, f150_9, f150_10, f150_11])
        refine hK157 _ _ _ ?_; clear hK157 K157
        refine wpOs_guard rfl rfl fun K158 hK158 => ?_
        (try simp only [go_sem, d1, d2, hc0, d3, hs1, hs2, hs3, h60, f150_8, f150_9, f150_10, f150_11])
        refine hK158 _ _ _ ?_; clear hK158 K158
        refine wpOs_guard rfl rfl fun K159 hK159 => ?_
        (try simp only [go_sem, d1, d2, hc0, d3, hs1, hs2, hs3, h60, f150_8, f150_9, f150_10, f150_11])
        refine hK159 _ _ _ ?_; clear hK159 K159
        refine wpOs_guard rfl rfl fun K160 hK160 => ?_
        (try simp only [go_sem, d1, d2, hc0, d3, hs1, hs2, hs3, h60, f150_8, f150_9, f150_10, f150_11])
        refine hK160 _ _ _ ?_; clear hK160 K160
        refine wpOs_step rfl fun K161 hK161 => ?_
        (try simp only [go_sem, d1, d2, hc0, d3, hs1, hs2, hs3, h60, f150_8, f150_9, f150_10, f150_11])
        refine hK161 _ _ _ ?_; clear hK161 K161
        refine wpOs_step rfl fun K162 hK162 => ?_
        (try simp only [go_sem, d1, d2, hc0, d3, hs1, hs2, hs3, h60, f150_8, f150_9, f150_10, f150_11])
        refine hK162 _ _ _ ?_; clear hK162 K162
        refine wpOs_end ?_
        refine hK149 _ _ _ ?_
        (try clear hK149 K149)
        refine wpE_ret ?_
        (try simp only [go_sem, d1, d2, hc0, d3, hs1, hs2, hs3, h60, f150_8, f150_9, f150_10, f150_11])
        refine fin_ret1 rfl ?_
        (try simp only [go_sem, d1, d2, hc0, d3, hs1, hs2, hs3, h60, f150_8, f150_9, f150_10, f150_11])
        -- leaf 4
        exact told_flat rfl (by simp [FV, FVs])
end Go.Ai
