/- The law's answer. -/
import Derived.Test.YtofhpjcdecjejaaP34
set_option linter.unusedVariables false
set_option linter.unusedSimpArgs false
namespace Tdoc
open Go Go.Proofs

theorem rulesR_small {ws : List Wd} (hl : ws.length ≤ 1000000) : ∀ (m : Nat) (l : List Rule) (s : RS), (∀ r, r ∈ l → smallC (condR r)) → ∀ r, r ∈ (rulesR ws m l s).1 → smallC (condR r)
  | 0, l, s, h => h
  | m + 1, l, s, h => by
    rw [rulesR]
    split
    · rename_i hc
      split
      · exact h
      · refine rulesR_small hl m _ _ fun r hr => ?_
        rcases List.mem_append.1 hr with hr | hr
        · exact h r hr
        · simp at hr; subst hr; exact (ruleR_ok hl hc.2).2.2
    · exact h

theorem parseR_small (text : List UInt8) (hl : text.length ≤ 1000000) : (parseR text).1.length ≤ 1000000 ∧ ∀ r, r ∈ (parseR text).1 → smallC (condR r) := by
  have hws := wordsR_len text (text.length + 1) 0 [] (by simp) (by simp)
  unfold parseR
  split
  · exact ⟨by simp, fun r hr => by cases hr⟩
  · split
    · exact ⟨by simp, fun r hr => by cases hr⟩
    · split
      · exact ⟨by simp, fun r hr => by cases hr⟩
      · rename_i hv
        refine ⟨?_, fun r hr => rulesR_small (by omega) _ _ _ (fun r hr => by cases hr) r hr⟩
        simp only [ne_eq, Decidable.not_not] at hv
        unfold validPol at hv
        split at hv
        · cases hv
        · simp only; omega

theorem policyParses_spec (text : List UInt8) (_ : text.length ≤ maxLen) : Spec Try.prog 3 [.d (.str text)] [] (fun r h' => r = .d (.bool true) ∧ h' = []) :=
  law_spec text (fun h => parsers_agree text (by omega)) (fun h => parseR_small text (by omega))
end Tdoc
