/- The examples of the store: run once. -/
import Derived.Test.YthllmdjcogjkoaaDoorAi29
import Derived.Test.YthllmdjcogjkoaaDoorCopy
namespace Go.Ai
open Go.Proofs
def sigS : Sig := fun f => bif f == 62 then some (copyCkA 78) else bif f == 89 then some cmpA else none
theorem sigS_ok : SigOk Tryd.prog sigS := by
  intro f g hg args h r e wf
  unfold sigS at hg
  cases h1 : f == 62 with
  | true =>
    rw [h1] at hg; injection hg with hg; subst hg
    obtain rfl : f = 62 := by simpa using h1
    exact copy_ok ⟨_, _, Tryd.func62, rfl, by kernel_rfl⟩ Tryd.copyCheck_used Tryd.copyCheck_fresh e wf
  | false =>
    rw [h1] at hg
    cases h2 : f == 89 with
    | true =>
      rw [h2] at hg; injection hg with hg; subst hg
      obtain rfl : f = 89 := by simpa using h2
      exact cmp_ok ⟨_, _, Tryd.func89, rfl, by kernel_rfl⟩ Tryd.compareString e wf
    | false => rw [h2] at hg; cases hg
theorem progS_ok : progOk Tryd.prog = true := by kernel_rfl
theorem awake_run : saysTrue (runF Tryd.prog sigS 5000 (.fn 5) [] hZ) = true := by kernel_rfl
theorem awake_says (h : AH) (wf : h.WF) : Calling Tryd.prog (.fn 5) [] h (.bool true, h) := by
  obtain ⟨h1, e⟩ := saysTrue_ok awake_run
  exact closed_ok (runA_ok progS_ok sigS_ok 5000 _ _ _ _ (runF_ok e) hZ_wf) h wf
end Go.Ai
