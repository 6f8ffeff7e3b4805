/- What the arguments of the solver's statements read as. -/
import Derived.Test.YtjggaanpodbmpaaS1
namespace Go.Ai
open Go.Proofs
set_option linter.unusedVariables false
set_option linter.unusedSimpArgs false

theorem flat1 {α : Type} (g : α → AV) : ∀ l : List α, (l.flatMap fun x => [g x]) = l.map g
  | [] => rfl
  | a :: l => by rw [List.flatMap_cons, flat1 g l]; rfl
section
variable {H : Type} {enc : TypeId × Value → H} {w : World}
theorem rd_ints : Rd enc Try.prog w 38 (fun l : List Int => [lst l]) (fun l => l.length ≤ maxLen ∧ ∀ n ∈ l, inI64 n) :=
  (Rd.slice (z := 1) (e := fun n : Int => [AV.int .i64 n]) u38 (by kernel_rfl) (by decide) (fun _ => rfl) (Rd.int u3)).map id (fun l => by show [AV.lst l.length (l.flatMap fun n => [AV.int .i64 n])] = _; rw [flat1]; rfl) (fun _ h => h)
theorem rd_bools : Rd enc Try.prog w 27 (fun l : List Bool => [bls l]) (fun l => l.length ≤ maxLen) :=
  (Rd.slice (z := 1) (e := fun n : Bool => [AV.bool n]) u27 (by kernel_rfl) (by decide) (fun _ => rfl) (Rd.bool u4)).map id (fun l => by show [AV.lst l.length (l.flatMap fun n => [AV.bool n])] = _; rw [flat1]; rfl) (fun _ h => h.1)
theorem rd_lists : Rd enc Try.prog w 22 (fun L : List (List Int) => [lls L]) (fun L => L.length ≤ maxLen ∧ ∀ l ∈ L, l.length ≤ maxLen ∧ ∀ n ∈ l, inI64 n) :=
  (Rd.slice (z := 1) (e := fun l : List Int => [lst l]) u22 (by kernel_rfl) (by decide) (fun _ => rfl) rd_ints).map id (fun L => by show [AV.lst L.length (L.flatMap fun l => [lst l])] = _; rw [flat1]; rfl) (fun _ h => h)
theorem rd_cl : Rd enc Try.prog w 24 (fun a : Int × List (List Int) => [.int .i64 a.1, lls a.2]) (fun a => inI64 a.1 ∧ a.2.length ≤ maxLen ∧ ∀ l ∈ a.2, l.length ≤ maxLen ∧ ∀ n ∈ l, inI64 n) :=
  (Rd.struct Try.underlying24 rfl (tot := 2) (by kernel_rfl) (RdF.cons rfl (n := 1) (by kernel_rfl) (Rd.int u3) (RdF.cons rfl (n := 1) (by kernel_rfl) rd_lists RdF.nil))).map (fun a => (a.1, a.2.1)) (fun a => rfl) (fun a h => ⟨h.1, h.2.1⟩)
theorem arg_cl {v : Value} {d : DataW H} {p : List MemPlace} (h : DataW.Trod enc Try.prog w 0 (fun _ => true) true 24 v d p) (hs : ∃ cs, v = .agg cs ∧ cs.size = Try.prog.cellsOf 24) :
    ∃ n L, RV (imM w) (cl n L) v ∧ inI64 n ∧ L.length ≤ maxLen ∧ ∀ l ∈ L, l.length ≤ maxLen ∧ ∀ x ∈ l, inI64 x := by
  obtain ⟨m, hm⟩ := h
  obtain ⟨cs, rfl, _⟩ := hs
  obtain ⟨a, ha, hr⟩ := rd_cl _ _ _ _ hm
  exact ⟨a.1, a.2, ⟨cs, rfl, hr⟩, ha⟩
theorem arg_bools {v : Value} {d : DataW H} {p : List MemPlace} (h : DataW.Trod enc Try.prog w 0 (fun _ => true) true 27 v d p) (hs : ∃ a len cap, v = .slice a len cap) : ∃ m : List Bool, RV (imM w) (bls m) v ∧ m.length ≤ maxLen := by
  obtain ⟨k, hm⟩ := h
  obtain ⟨a, len, cap, rfl⟩ := hs
  obtain ⟨m, ha, hr⟩ := rd_bools _ _ _ _ hm
  obtain ⟨_, _, e, hv, _⟩ := hr
  injection e with e _; subst e
  exact ⟨m, hv, ha⟩
theorem arg_ints {v : Value} {d : DataW H} {p : List MemPlace} (h : DataW.Trod enc Try.prog w 0 (fun _ => true) true 38 v d p) (hs : ∃ a len cap, v = .slice a len cap) : ∃ l : List Int, RV (imM w) (lst l) v ∧ l.length ≤ maxLen ∧ ∀ x ∈ l, inI64 x := by
  obtain ⟨k, hm⟩ := h
  obtain ⟨a, len, cap, rfl⟩ := hs
  obtain ⟨m, ha, hr⟩ := rd_ints _ _ _ _ hm
  obtain ⟨_, _, e, hv, _⟩ := hr
  injection e with e _; subst e
  exact ⟨m, hv, ha⟩
end
end Go.Ai
