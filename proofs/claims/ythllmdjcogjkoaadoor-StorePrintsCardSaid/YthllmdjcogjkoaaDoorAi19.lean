/- Calls, from the abstract machine's runs: the contract of a function; of a function that is run once for all. -/
import Derived.Test.YthllmdjcogjkoaaDoorAi18
namespace Go.Ai
set_option linter.unusedSimpArgs false
set_option linter.unusedVariables false

/-- The empty heap. -/
def hZ : AH := { t := .e, n := 0, pb := 0, ws := [], tp := [] }
theorem hZ_wf : hZ.WF := fun _ _ => rfl
def Mp.empty : Mp := ⟨fun _ => none, fun _ => none, fun _ => none⟩
theorem Rel.start (w : World) (X : Nat → Option AO) : Rel w.heap.size w Mp.empty X w where
  below := Go.RowKit.Below.refl _ _
  big := Nat.le_refl _
  obj := fun _ _ h => by cases h
  sep := fun _ _ _ _ h => by cases h
  im := fun _ _ h => by cases h
  im0 := fun _ _ h => by cases h

theorem fen_none : fen none = Fence.wide := rfl

section
variable {P : Program} {sig : Sig}

/-- A call, by its contract. -/
theorem Calling.calls {f : FuncId} {args : List AV} {h : AH} {r : AV × AH} (C : Calling P (.fn f) args h r) {B : Nat} {w0 w : World} {M : Mp} {X : Nat → Option AO} {args' : Array Value}
    (ha : RVs M args args'.toList) (R : Rel B w0 M X w) (hM : ∀ id, h.n ≤ id → id < r.2.n → M id = none) (agree : ∀ id, id < h.n → X id = h.get id) : Calls P f args' w (Back B w0 M X h r) :=
  callsIn_wide.1 (C.call f rfl 0 B w0 M X w args' ha R hM agree)

/-- A function that has been run on nothing, and answers yes or no: it does so wherever it is called. -/
theorem closed_ok {f : FuncId} {b : Bool} {h1 : AH} (C : Calling P (.fn f) [] hZ (.bool b, h1)) (h : AH) (wf : h.WF) : Calling P (.fn f) [] h (.bool b, h) where
  wf := wf
  ext := .refl _
  fn := C.fn
  call := fun g hg n B w0 M X w args' ha R hM agree => by
    injection hg with hg; subst hg
    have := C.call f rfl n w.heap.size w Mp.empty (fun _ => none) w args' (show RVs _ [] _ from ha) (Rel.start w _) (fun _ _ _ => rfl) (fun id h => by cases h)
    refine CallsIn.mono this fun e w' hb => ?_
    obtain ⟨v, rfl, M', st, hv⟩ := hb
    cases hv
    refine ⟨.bool b, rfl, M, ?_, rfl⟩
    have hbelow := st.rel.below
    refine ⟨.refl _, fun _ e _ => e, ?_⟩
    have R' : Rel B w0 M X w' := {
      below := R.below.trans (hbelow.mono R.big)
      big := Nat.le_trans R.big hbelow.size
      obj := fun id p hp => by
        obtain ⟨o, h1, h2⟩ := R.obj id p hp
        exact ⟨o, h1, OR.heap (fun hg => hbelow.block _ (h2.lt hg)) h2⟩
      sep := R.sep
      im0 := R.im0
      im := fun b arr hb => by
        obtain ⟨⟨e, fz, h1⟩, h2⟩ := R.im b arr hb
        exact ⟨⟨e, fz, by rw [hbelow.block b (Array.getElem?_eq_some_iff.1 h1).1]; exact h1⟩, h2⟩ }
    show Rel B w0 M (ovr h X) w'
    rw [ovr_same agree]; exact R'
  round := fun l hl => by cases hl

def saysTrue : Option (AV × AH) → Bool
  | some (.bool b, _) => b
  | _ => false
theorem saysTrue_ok {r : Option (AV × AH)} (h : saysTrue r = true) : ∃ h1, r = some (.bool true, h1) := by
  unfold saysTrue at h
  split at h
  · subst h; exact ⟨_, rfl⟩
  · cases h
/-- A function that is run once, and says yes. -/
theorem awake_ok (hp : progOk P = true) {k : Nat} {f : FuncId} (e : saysTrue (runA P (fun _ => none) k (.fn f) [] hZ) = true) (h : AH) (wf : h.WF) : Calling P (.fn f) [] h (.bool true, h) := by
  obtain ⟨h1, e⟩ := saysTrue_ok e
  exact closed_ok (runA_ok hp (fun f g hg => by cases hg) k _ _ _ _ e hZ_wf) h wf
end
end Go.Ai
