/- Heaps as lists; what walks rewrite by. -/
import Derived.Test.YthllmdjcogjkoaaDoorAi25
namespace Go.Ai
set_option linter.unusedSimpArgs false
set_option linter.unusedVariables false

/-! ### Trees -/
theorem Tr.put_put : ∀ (f : Nat) (t : Tr) (k : Nat) (o o' : Option AO), k < f → Tr.put f (Tr.put f t k o) k o' = Tr.put f t k o' := by
  intro f
  induction f with
  | zero => intro t k o o' h; omega
  | succ f ih =>
    intro t k o o' h
    cases t with
    | e =>
      cases k with
      | zero => rfl
      | succ k =>
        simp only [Tr.put]
        cases hk : (k % 2 == 0) <;> simp only [cond_true, cond_false, Tr.put, hk] <;> rw [ih _ _ _ _ (by omega)]
    | n l v r =>
      cases k with
      | zero => rfl
      | succ k =>
        simp only [Tr.put]
        cases hk : (k % 2 == 0) <;> simp only [cond_true, cond_false, Tr.put, hk] <;> rw [ih _ _ _ _ (by omega)]
/-- Enough is enough. -/
theorem Tr.put_fuel : ∀ (f g : Nat) (t : Tr) (k : Nat) (o : Option AO), k < f → k < g → Tr.put f t k o = Tr.put g t k o := by
  intro f
  induction f with
  | zero => intro g t k o h; omega
  | succ f ih =>
    intro g t k o h1 h2
    cases g with
    | zero => omega
    | succ g =>
      cases t <;> cases k <;> simp only [Tr.put] <;> (try rfl)
      · rename_i k; rw [ih g _ _ _ (by omega) (by omega)]
      · rename_i k; rw [ih g _ _ _ (by omega) (by omega), ih g _ _ _ (by omega) (by omega)]
theorem Tr.put_comm : ∀ (f : Nat) (t : Tr) (j k : Nat) (o o' : Option AO), j < f → k < f → j ≠ k → Tr.put f (Tr.put f t j o) k o' = Tr.put f (Tr.put f t k o') j o := by
  intro f
  induction f with
  | zero => intro t j k o o' h; omega
  | succ f ih =>
    intro t j k o o' h1 h2 hne
    cases j with
    | zero =>
      cases k with
      | zero => omega
      | succ k => cases t <;> simp only [Tr.put] <;> cases hk : (k % 2 == 0) <;> simp only [cond_true, cond_false, Tr.put, hk]
    | succ j =>
      cases k with
      | zero => cases t <;> simp only [Tr.put] <;> cases hk : (j % 2 == 0) <;> simp only [cond_true, cond_false, Tr.put, hk]
      | succ k =>
        cases t with
        | e =>
          simp only [Tr.put]
          cases hj : (j % 2 == 0) <;> cases hk : (k % 2 == 0) <;> simp only [cond_true, cond_false, Tr.put, hj, hk]
          · rw [ih _ _ _ _ _ (by omega) (by omega) (by simp at hj hk; omega)]
          · rw [ih _ _ _ _ _ (by omega) (by omega) (by simp at hj hk; omega)]
        | n l v r =>
          simp only [Tr.put]
          cases hj : (j % 2 == 0) <;> cases hk : (k % 2 == 0) <;> simp only [cond_true, cond_false, Tr.put, hj, hk]
          · rw [ih _ _ _ _ _ (by omega) (by omega) (by simp at hj hk; omega)]
          · rw [ih _ _ _ _ _ (by omega) (by omega) (by simp at hj hk; omega)]

theorem snoc_ind {p : List AO → Prop} (nil : p []) (snoc : ∀ os o, p os → p (os ++ [o])) (os : List AO) : p os := by
  rw [← os.reverse_reverse]
  induction os.reverse with
  | nil => exact nil
  | cons o l ih => rw [List.reverse_cons]; exact snoc _ _ ih
/-- The heap with these blocks. -/
def hL (os : List AO) : AH := os.foldl AH.push hZ
theorem hL_nil : hL [] = hZ := rfl
theorem hL_push (os : List AO) (o : AO) : (hL os).push o = hL (os ++ [o]) := by simp [hL]
theorem hL_snoc (os : List AO) (o : AO) : hL (os ++ [o]) = (hL os).push o := (hL_push os o).symm
theorem hL_n (os : List AO) : (hL os).n = os.length := by
  induction os using snoc_ind with
  | nil => rfl
  | snoc os o ih => rw [hL_snoc, AH.push_n, ih]; simp
theorem hL_pb (os : List AO) : (hL os).pb = 0 := by
  induction os using snoc_ind with
  | nil => rfl
  | snoc os o ih => rw [hL_snoc]; exact ih
theorem hL_ws (os : List AO) : (hL os).ws = [] := by
  induction os using snoc_ind with
  | nil => rfl
  | snoc os o ih => rw [hL_snoc]; exact ih
theorem hL_tp (os : List AO) : (hL os).tp = [] := by
  induction os using snoc_ind with
  | nil => rfl
  | snoc os o ih => rw [hL_snoc]; exact ih
theorem hL_get (os : List AO) (i : Nat) : (hL os).get i = os[i]? := by
  induction os using snoc_ind with
  | nil => rfl
  | snoc os o ih =>
    rw [hL_snoc, AH.get_push, ih, hL_n]
    by_cases h : i = os.length
    · subst h; rw [if_pos rfl, List.getElem?_append_right (Nat.le_refl _)]; simp
    · rw [if_neg h]
      by_cases h2 : i < os.length
      · rw [List.getElem?_append_left h2]
      · rw [List.getElem?_eq_none (by omega), List.getElem?_eq_none (by simp; omega)]
theorem hL_wf (os : List AO) : (hL os).WF := by
  intro id h
  rw [hL_n] at h
  rw [hL_get]; exact List.getElem?_eq_none h
theorem hL_set (os : List AO) (i : Nat) (o : AO) (h : i < os.length) : (hL os).set i o = hL (os.set i o) := by
  induction os using snoc_ind with
  | nil => simp at h
  | snoc os o' ih =>
    have e1 := hL_n os
    have e2 := hL_pb os
    have e3 := hL_ws os
    by_cases hi : i = os.length
    · subst hi
      rw [List.set_append_right _ _ (Nat.le_refl _), Nat.sub_self, List.set_cons_zero, hL_snoc, hL_snoc]
      unfold AH.set AH.push
      simp only [e1, e2, e3, Nat.not_lt_zero, decide_false, cond_false]
      rw [Tr.put_put _ _ _ _ _ (by omega)]
    · have hlt : i < os.length := by simp at h; omega
      rw [List.set_append_left _ _ hlt, hL_snoc, hL_snoc, ← ih hlt]
      unfold AH.set AH.push
      simp only [e1, e2, e3, Nat.not_lt_zero, decide_false, cond_false]
      rw [Tr.put_fuel (i + 1) (os.length + 1) _ i _ (by omega) (by omega), Tr.put_fuel (i + 1) (os.length + 1) (hL os).t i _ (by omega) (by omega), Tr.put_comm _ _ _ _ _ _ (by omega) (by omega) (by omega)]

section
variable {P : Program} {h : AH}
theorem re_set {id : Nat} {o : AO} (hid : id < h.n) : re ((bare h).set id o) h = h.set id o := by
  unfold re bare AH.set
  simp only [hid, decide_true, cond_true, List.filter_cons, List.filter_nil]
  by_cases hp : id < h.pb <;> simp [hp]
theorem bare_hL_set (os : List AO) (i : Nat) (o : AO) (hi : i < os.length) : re ((bare (hL os)).set i o) (hL os) = hL (os.set i o) := by
  rw [re_set (by rw [hL_n]; exact hi), hL_set _ _ _ hi]
theorem qK_set {id : Nat} {o : AO} {i : Nat} {dd : List Nat} {v : AV} {K : AV → AH → Prop} (hi : i ∈ dd) : qK i dd K v ((bare h).set id o) = K v ((bare h).set id o) := by simp [qK, hi]
theorem bare_cells {id : Nat} : cellsAt (bare h) id = cellsAt h id := rfl

/-! ### Memory that stays -/
theorem ix_lst {t e : TypeId} {k : IntKind} {n i : Nat} {cs : List AV} (hu : P.underlying t = some (.slice e)) (hz : szOf P e = some 1) (hi : i < n) : indexAddrA P t (.lst n cs) (.int k i) = some (.ipt cs i) := by
  simp only [indexAddrA, hu, hz]
  rw [decide_eq_true (by omega)]
  simp
theorem ix_lstz {t e : TypeId} {k : IntKind} {n i z : Nat} {cs : List AV} (hu : P.underlying t = some (.slice e)) (hz : szOf P e = some z) (hi : i < n) : indexAddrA P t (.lst n cs) (.int k i) = some (.ipt cs (i * z)) := by
  simp only [indexAddrA, hu, hz]
  rw [decide_eq_true (by omega)]
  simp
theorem ld_ipt {t : TypeId} {off : Nat} {cs : List AV} (ha : aggT P t = some false) : loadA P h t (.ipt cs off) = cs[off]? := by
  simp [loadA, ha]
theorem ld_ptr {t : TypeId} {id off : Nat} (ha : aggT P t = some false) : loadA P h t (.ptr id off) = (cellsAt h id).bind fun cs => cs[off]? := by
  simp only [loadA, ha]
  cases cellsAt h id <;> rfl
theorem ld_ptra {t : TypeId} {id off n : Nat} (ha : aggT P t = some true) (hz : szOf P t = some n) : loadA P h t (.ptr id off) = (cellsAt h id).bind fun cs => (cut cs off n).map .agg := by
  simp only [loadA, ha, hz]
  cases cellsAt h id <;> rfl
theorem ln_lst {t e : TypeId} {n : Nat} {cs : List AV} (hu : P.underlying t = some (.slice e)) : builtinA P h .len [t] [.lst n cs] = some (.int .i64 n, h) := by
  simp [builtinA, lenA, hu]
theorem ln_nil {t e : TypeId} (hu : P.underlying t = some (.slice e)) : builtinA P h .len [t] [.nilslice] = some (.int .i64 (0 : Nat), h) := by
  simp [builtinA, lenA, hu]
theorem ln_slice {t e : TypeId} {id off n : Nat} {c : Cap} (hu : P.underlying t = some (.slice e)) : builtinA P h .len [t] [.slice id off n c] = some (.int .i64 n, h) := by
  simp [builtinA, lenA, hu]
theorem ln_str {t : TypeId} {s : ByteArray} (hu : P.underlying t = some .string) : builtinA P h .len [t] [.str s] = some (.int .i64 s.size, h) := by
  simp [builtinA, lenA, hu]
theorem bi_max2 {t : List TypeId} {k k' : IntKind} {x y : Int} : builtinA P h .max t [.int k x, .int k' y] = some (.int k (if y > x then y else x), h) := rfl
theorem bi_min2 {t : List TypeId} {k k' : IntKind} {x y : Int} : builtinA P h .min t [.int k x, .int k' y] = some (.int k (if y < x then y else x), h) := rfl
def AO.cs? : AO → Option (List AV)
  | .cells cs _ => some cs
  | .byt _ cs => some cs
  | .var _ cs => some cs
  | _ => none
theorem cs_cells {cs : List AV} {ro : Bool} : AO.cs? (.cells cs ro) = some cs := rfl
theorem cellsAt_hL (os : List AO) (i : Nat) : cellsAt (hL os) i = (os[i]?).bind AO.cs? := by
  unfold cellsAt; rw [hL_get]
  rcases os[i]? with _ | o
  · rfl
  · cases o <;> rfl
theorem toNat_cast (n : Nat) : ((n : Int)).toNat = n := rfl

/-! ### What is told of an answer -/
theorem told_flat {v r : AV} (e : v = r) (hf : FV h (kap []) false false r r) : Told h v r [] := by
  subst e; exact ⟨[], rfl, .nil, hf, fun j cs h => by simp at h⟩
theorem FV.lst {κ : Nat → Option Nat} {any d : Bool} {n : Nat} {cs : List AV} : FV h κ any d (.lst n cs) (.lst n cs) := by simp [FV]
/-- A slice of the heap, told as data. -/
theorem FV.of_slice {κ : Nat → Option Nat} {any d : Bool} {id n : Nat} {cap : Cap} {cs all : List AV} {ro : Bool} (hk : κ id = none) (hg : h.get id = some (.cells all ro)) (hr : ro = true → any = true) (hs : FVs h κ any true cs all) : FV h κ any d (.lst n cs) (.slice id 0 n cap) := by
  simp only [FV]
  refine .inr (.inr ⟨id, 0, cap, all, ro, hk, rfl, hg, hr, by rw [FVs.length hs]; omega, ?_⟩)
  rw [List.drop_zero, ← FVs.length hs, List.take_length]; exact hs
theorem FVs.self {κ : Nat → Option Nat} {any d : Bool} : ∀ {cs : List AV}, (∀ c ∈ cs, FV h κ any d c c) → FVs h κ any d cs cs
  | [], _ => by simp [FVs]
  | c :: cs, hc => by
    simp only [FVs]
    exact ⟨c, cs, rfl, hc c (by simp), FVs.self fun x hx => hc x (by simp [hx])⟩
theorem FVs.self_map {α : Type} {g : α → AV} {κ : Nat → Option Nat} {any d : Bool} (hg : ∀ x, FV h κ any d (g x) (g x)) (l : List α) : FVs h κ any d (l.map g) (l.map g) :=
  FVs.self fun c hc => by obtain ⟨x, _, rfl⟩ := List.mem_map.1 hc; exact hg x

/-! ### Steps of a walk -/
section
variable {rnd : Option Nat} {k : Nat} {ρ : Env} {df : List ADef} {Q : Pst} {ops : Array Oper} {K : Kon}
theorem wpE_gen {c : Code} (H : ∀ ρ', ρ' = ρ → wpE P rnd k c Q ρ' df h) : wpE P rnd k c Q ρ df h := H _ rfl
theorem wpE_cond' {c : Operand} {a b : Code} (H : onCond (evalE ρ c) (wpE P rnd k a Q ρ df h) (wpE P rnd k b Q ρ df h)) : wpE P rnd k (.cond c a b) Q ρ df h := H
theorem wpE_condT {c : Operand} {a b : Code} (e : evalE ρ c = some (.bool true)) (H : wpE P rnd k a Q ρ df h) : wpE P rnd k (.cond c a b) Q ρ df h := by
  show onCond (evalE ρ c) _ _; rw [e]; exact ⟨fun _ => H, fun h => by cases h⟩
theorem wpE_condF {c : Operand} {a b : Code} (e : evalE ρ c = some (.bool false)) (H : wpE P rnd k b Q ρ df h) : wpE P rnd k (.cond c a b) Q ρ df h := by
  show onCond (evalE ρ c) _ _; rw [e]; exact ⟨fun h => (by cases h), fun _ => H⟩
@[congr] theorem onCond_congr {r r' : Option AV} {A B : Prop} (e : r = r') : onCond r A B = onCond r' A B := by rw [e]
theorem onCond_bool {t : Bool} {A B : Prop} : onCond (some (.bool t)) A B = branch t A B := rfl
theorem onWant_T {b : Bool} {A B : Prop} : onWant (wantE (.bool b) true) A B = branch b A B := by cases b <;> simp [onWant, wantE, branch]
theorem onWant_F {b : Bool} {A B : Prop} : onWant (wantE (.bool b) false) A B = branch b B A := by cases b <;> simp [onWant, wantE, branch]
theorem onWant_U {w : Bool} {A B : Prop} : onWant (wantE undefA w) A B = B := by simp [onWant, wantE, undefA, branch]
theorem branch_by {t : Bool} {A B : Prop} (a : t = true → A) (b : t = false → B) : branch t A B := ⟨a, b⟩
theorem branch_t {t : Bool} {A B : Prop} (e : t = true) (a : A) : branch t A B := by subst e; exact ⟨fun _ => a, fun h => by cases h⟩
theorem branch_f {t : Bool} {A B : Prop} (e : t = false) (b : B) : branch t A B := by subst e; exact ⟨fun h => (by cases h), fun _ => b⟩
/-- An operation, with what comes behind it out of sight. -/
theorem wpOs_step {d : Option Tmp} {op : Op} {ty : TypeId} {pos : String} {aft : Array Edge} {os : List Oper} (hd : isDefer op = none)
    (H : ∀ K1 : Kon, (∀ ρ df h, wpOs P rnd ops os K ρ df h → K1 ρ df h) → onOp P (evalE ρ) op h fun v h => K1 (updO ρ d v) df h) :
    wpOs P rnd ops ({ dst := d, op := op, type := ty, pos := pos, after := aft, guard := none } :: os) K ρ df h := by
  have := H (wpOs P rnd ops os K) fun _ _ _ h => h
  rw [wpOs_cons, wpO_no, hd]; exact this
theorem wpOs_guard {d : Option Tmp} {op : Op} {ty : TypeId} {pos : String} {aft : Array Edge} {os : List Oper} {j dj : Nat} {want : Bool} (hd : isDefer op = none) (hj : (ops[j]?).bind (fun g => g.dst) = some dj)
    (H : ∀ K1 : Kon, (∀ ρ df h, wpOs P rnd ops os K ρ df h → K1 ρ df h) → onWant (wantE (ρ dj) want) (onOp P (evalE ρ) op h fun v h => K1 (updO ρ d v) df h) (K1 (updO ρ d undefA) df h)) :
    wpOs P rnd ops ({ dst := d, op := op, type := ty, pos := pos, after := aft, guard := some (j, want) } :: os) K ρ df h := by
  have := H (wpOs P rnd ops os K) fun _ _ _ h => h
  rw [wpOs_cons, wpO_gd, hj, hd]; exact this
theorem wpOs_end (H : K ρ df h) : wpOs P rnd ops [] K ρ df h := H
theorem wpQs_step {dd : List Nat} {i : Nat} {d : Option Tmp} {op : Op} {ty : TypeId} {pos : String} {aft : Array Edge} {os : List Oper} (hd : isDefer op = none)
    (H : ∀ K1 : Kon, (∀ ρ df h, wpQs P ops dd (i + 1) os K ρ df h → K1 ρ df h) → onOp P (evalE ρ) op (bare h) (qK i dd fun v h1 => K1 (updO ρ d v) df (re h1 h))) :
    wpQs P ops dd i ({ dst := d, op := op, type := ty, pos := pos, after := aft, guard := none } :: os) K ρ df h := by
  have := H (wpQs P ops dd (i + 1) os K) fun _ _ _ h => h
  rw [wpQs_cons, wpQ_no]; exact ⟨hd, this⟩
theorem wpQs_guard {dd : List Nat} {i : Nat} {d : Option Tmp} {op : Op} {ty : TypeId} {pos : String} {aft : Array Edge} {os : List Oper} {j dj : Nat} {want : Bool} (hd : isDefer op = none) (hj : (ops[j]?).bind (fun g => g.dst) = some dj)
    (H : ∀ K1 : Kon, (∀ ρ df h, wpQs P ops dd (i + 1) os K ρ df h → K1 ρ df h) → onWant (wantE (ρ dj) want) (onOp P (evalE ρ) op (bare h) (qK i dd fun v h1 => K1 (updO ρ d v) df (re h1 h))) (K1 (updO ρ d undefA) df h)) :
    wpQs P ops dd i ({ dst := d, op := op, type := ty, pos := pos, after := aft, guard := some (j, want) } :: os) K ρ df h := by
  have := H (wpQs P ops dd (i + 1) os K) fun _ _ _ h => h
  rw [wpQs_cons, wpQ_gd, hj]
  simp only [hd, true_and]; exact this
theorem wpQs_end {dd : List Nat} {i : Nat} (H : K ρ df h) : wpQs P ops dd i [] K ρ df h := H
theorem Fun.pure {f : FuncId} {ds : List AV} {r : AV} (F : Fun P f ds r []) (hd : idfs ds = true) (hr : ∀ k, shift k r = r) (wf : h.WF) : Calling P (.fn f) ds h (r, h) := by
  have := F.calling (h := h) hd wf
  rwa [hr] at this
/-- A call with data that stays. -/
theorem call_fun {g : FuncId} {xs ys vs ds : List AV} {K : AV → AH → Prop} {r : AV} (F : Fun P g ds r []) (e : xs ++ vs ++ ys = ds) (hd : idfs ds = true) (hr : ∀ k, shift k r = r) (k : K r h) : onCall P (.func g xs ys) vs h K := by
  subst e; exact fun wf => ⟨_, F.pure hd hr wf, k⟩
theorem call_own {g : FuncId} {xs ys vs ds : List AV} {K : AV → AH → Prop} {r : AV} {os : List (List AV)} (F : Fun P g ds r os) (e : xs ++ vs ++ ys = ds) (hd : idfs ds = true) (k : K (shift h.n r) (pushes h os)) : onCall P (.func g xs ys) vs h K := by
  subst e; exact fun wf => ⟨_, F.calling hd wf, k⟩
/-- A call with what lies in the heap. -/
theorem call_bor {g : FuncId} {xs ys vs ds : List AV} {K : AV → AH → Prop} {r : AV} {os : List (List AV)} (F : Fun P g ds r os) (e : FVs h (fun _ => none) true true ds (xs ++ vs ++ ys)) (hr : noi r = true) (ho : ∀ cs ∈ os, nois cs = true) (k : K (shift h.n r) (pushes h os)) : onCall P (.func g xs ys) vs h K :=
  fun wf => ⟨_, F.borrow e hr ho wf, k⟩
theorem call_calling {g : FuncId} {xs ys vs : List AV} {K : AV → AH → Prop} {r : AV × AH} (C : ∀ h, h.WF → Calling P (.fn g) (xs ++ vs ++ ys) h r) (k : K r.1 r.2) : onCall P (.func g xs ys) vs h K :=
  fun wf => ⟨_, C h wf, k⟩
theorem fun_walk {kk : Nat} {f : FuncId} {fn : Func} {c : Code} {args : List AV} {r : AV} {os : List (List AV)} (hp : progOk P = true) (hf : P.funcs[f]? = some fn) (hb : fn.body = some c) (ht : tmOk fn.ntmps c = true) (hl : args.length ≤ fn.ntmps) (hos : ∀ cs ∈ os, idfs cs = true)
    (hw : wpE P none kk c (finE P kk fn fun v h => Told h v r os) (startE args) [] (hL [])) : Fun P f args r os :=
  Fun.of_has (has_walk hp hf hb ht hl hZ_wf hw) hos
end
end
attribute [go_sem] qK_set onCond_bool onWant_T onWant_F onWant_U shift shifts pushes hL_push hL_n hL_get List.mem_cons List.mem_singleton true_or or_true cellsAt_hL cs_cells bare_cells ld_ipt ld_ptr ln_lst ln_nil ln_slice ln_str bi_max2 bi_min2 toNat_cast List.getElem?_map Option.map_some Option.bind_some List.length_cons List.length_nil List.length_append List.append_assoc List.cons_append List.nil_append
  List.getElem?_cons_zero List.getElem?_cons_succ Nat.reduceAdd Nat.zero_add
end Go.Ai
