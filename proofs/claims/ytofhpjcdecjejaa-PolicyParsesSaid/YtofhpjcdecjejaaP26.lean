/- The words of a text, from a place on. No program is named here. -/
import Derived.Test.YtofhpjcdecjejaaP25
set_option linter.unusedVariables false
set_option linter.unusedSimpArgs false
namespace Tdoc
open Go Go.Proofs

theorem skipS_true : ∀ r : List UInt8, skipS true r = cmt r + skipS false (r.drop (cmt r))
  | [] => by simp [skipS, cmt]
  | c :: r => by
    have ih := skipS_true r
    by_cases h : c = 10
    · simp [skipS, cmt, h]
    · simp only [skipS, cmt, if_neg h, List.drop_succ_cons, ih]; omega

theorem wordsR_out (text : List UInt8) : ∀ (m p : Nat) (out : List Wd), wordsR text m p out = (out ++ (wordsR text m p []).1, (wordsR text m p []).2)
  | 0, p, out => by simp [wordsR]
  | m + 1, p, out => by
    rw [wordsR, wordsR]
    cases text.drop p with
    | nil => simp
    | cons c r =>
      simp only
      split
      · exact wordsR_out text m _ out
      · split
        · exact wordsR_out text m _ out
        · split
          · rw [wordsR_out text m _ (out ++ _), wordsR_out text m _ ([] ++ _)]; simp
          · split
            · rw [wordsR_out text m _ (out ++ _), wordsR_out text m _ ([] ++ _)]; simp
            · simp

theorem wordsR_fuel (text : List UInt8) : ∀ (m m' p : Nat) (out : List Wd), text.length - p < m → text.length - p < m' → wordsR text m p out = wordsR text m' p out
  | 0, _, _, _, h, _ => by omega
  | _, 0, _, _, _, h => by omega
  | m + 1, m' + 1, p, out, h1, h2 => by
    rw [wordsR, wordsR]
    cases hd : text.drop p with
    | nil => rfl
    | cons c r =>
      have hlen : (c :: r).length = text.length - p := by rw [← hd]; simp
      simp only [List.length_cons] at hlen
      simp only
      split
      · exact wordsR_fuel text m m' _ _ (by omega) (by omega)
      · split
        · rename_i hc
          have : 0 < cmt (c :: r) := by rw [cmt, if_neg (by rw [hc]; decide)]; omega
          exact wordsR_fuel text m m' _ _ (by omega) (by omega)
        · split
          · exact wordsR_fuel text m m' _ _ (by omega) (by omega)
          · split
            · rename_i hc
              have : 0 < lets (c :: r) := by rw [lets, if_pos hc]; omega
              exact wordsR_fuel text m m' _ _ (by omega) (by omega)
            · rfl

/-- The words from a place on, and where the first byte is that begins no word. -/
def wf (text : List UInt8) (p : Nat) : List Wd × Int := wordsR text (text.length + 1) p []

theorem wf_eq (text : List UInt8) (p : Nat) : wf text p = match text.drop p with
    | [] => ([], -1)
    | c :: r => if c = 32 ∨ c = 10 then wf text (p + 1)
      else if c = 35 then wf text (p + cmt (c :: r))
      else if (c = 40 ∨ c = 41) ∨ c = 59 then (([c], p) :: (wf text (p + 1)).1, (wf text (p + 1)).2)
      else if isLow c = true then (((c :: r).take (lets (c :: r)), p) :: (wf text (p + lets (c :: r))).1, (wf text (p + lets (c :: r))).2)
      else ([], p) := by
  unfold wf
  rw [wordsR]
  cases hd : text.drop p with
  | nil => rfl
  | cons c r =>
    have hlen : (c :: r).length = text.length - p := by rw [← hd]; simp
    simp only [List.length_cons] at hlen
    simp only
    split
    · exact wordsR_fuel text _ _ _ _ (by omega) (by omega)
    · split
      · rename_i hc
        have : 0 < cmt (c :: r) := by rw [cmt, if_neg (by rw [hc]; decide)]; omega
        exact wordsR_fuel text _ _ _ _ (by omega) (by omega)
      · split
        · rw [wordsR_out, wordsR_fuel text text.length (text.length + 1) (p + 1) [] (by omega) (by omega)]; rfl
        · split
          · rename_i hc
            have : 0 < lets (c :: r) := by rw [lets, if_pos hc]; omega
            rw [wordsR_out, wordsR_fuel text text.length (text.length + 1) _ [] (by omega) (by omega)]; rfl
          · rfl

theorem wf_skip (text : List UInt8) : ∀ (m p : Nat), text.length - p < m → wf text p = wf text (p + skipS false (text.drop p))
  | 0, p, h => by omega
  | m + 1, p, h => by
    cases hd : text.drop p with
    | nil => rfl
    | cons c r =>
      have hlen : (c :: r).length = text.length - p := by rw [← hd]; simp
      simp only [List.length_cons] at hlen
      have hr : text.drop (p + 1) = r := by rw [← List.drop_drop, hd]; rfl
      by_cases h1 : c = 32 ∨ c = 10
      · rw [wf_eq, hd]
        simp only [if_pos h1, skipS]
        rw [wf_skip text m (p + 1) (by omega), hr]
        congr 1; omega
      · by_cases h2 : c = 35
        · rw [wf_eq, hd]
          simp only [if_neg h1, if_pos h2, skipS]
          have hcm : cmt (c :: r) = cmt r + 1 := by rw [cmt, if_neg (by rw [h2]; decide)]
          rw [hcm, wf_skip text m (p + (cmt r + 1)) (by omega), skipS_true]
          have : text.drop (p + (cmt r + 1)) = r.drop (cmt r) := by rw [← hr, List.drop_drop]; congr 1; omega
          rw [this]
          congr 1; omega
        · simp [skipS, h1, h2]
end Tdoc
