/- The smallest conditions in both parsers. -/
import Derived.Test.YtofhpjcdecjejaaP32
set_option linter.unusedVariables false
set_option linter.unusedSimpArgs false
namespace Tdoc
open Go Go.Proofs

theorem Right.one {text : List UInt8} {ws : List Wd} {bro : Int} {s : PS} {rs : RS} (h : Right text ws bro s rs) (hb : bro = -1 ∨ 0 ≤ bro) {l : List (List UInt8)} (hl : ∀ w, w ∈ l → Real w) :
    (sIdx l (peekR ws rs) + 1 ≠ 0 ∧ oneP text s l = (sIdx l (peekR ws rs) + 1, nextP text s) ∧ Right text ws bro (nextP text s) rs.inc) ∨ (sIdx l (peekR ws rs) + 1 = 0 ∧ oneP text s l = (0, { s with wr := true }) ∧ Wrong { s with wr := true } (failR ws rs)) := by
  have he := h.idx hl
  unfold oneP
  rw [he]
  by_cases hz : sIdx l (peekR ws rs) + 1 = 0
  · right
    rw [if_pos (.inl hz)]
    exact ⟨hz, rfl, h.fail hb⟩
  · left
    rw [if_neg (by rintro (hh | hh); exact hz hh; rw [h.wr] at hh; cases hh)]
    refine ⟨hz, rfl, h.next ?_⟩
    rcases h.now with hn | hn
    · exact hn
    · rw [hn.peek] at hz
      exact absurd (by rw [sIdx_none fun j hj hh => (hl _ (List.getElem_mem hj)).1 hh]; rfl) hz

theorem set_wr {s : PS} (h : s.wr = true) : { s with wr := true } = s := by cases s; simp at h; simp [h]
theorem oneP_wr {text : List UInt8} {s : PS} {l : List (List UInt8)} (h : s.wr = true) : oneP text s l = (0, s) := by unfold oneP; rw [if_pos (.inr h), set_wr h]

theorem atom_wrong (text : List UInt8) (ws : List Wd) (n n' : Nat) (s : PS) (rs : RS) (h : Wrong s rs) : Wrong (atomP text n s).2 (atomR ws n' rs).2 := by
  have e1 : (atomP text n s).2 = s := by
    cases n with
    | zero => rfl
    | succ n =>
      unfold atomP
      rw [isP_wr h.1]
      simp only
      rw [if_neg (by simp), isP_wr h.1, if_neg (by simp)]
      unfold isAtomP
      rw [oneP_wr h.1]
      simp only
      rw [isP_wr h.1]
      rfl
  have e2 : (atomR ws n' rs).2 = rs := by
    cases n' with
    | zero => rfl
    | succ n' => unfold atomR; rw [if_pos h.2.1]
  rw [e1, e2]; exact h

theorem atom_rel {text : List UInt8} {ws : List Wd} {bro : Int} (hb : bro = -1 ∨ 0 ≤ bro) : ∀ (n n' : Nat), PRel text ws bro n n' (atomP text n) (atomR ws n')
  | 0, n' => ⟨fun s rs _ h1 _ => by omega, fun s rs h => atom_wrong text ws 0 n' s rs h⟩
  | n + 1, 0 => ⟨fun s rs _ _ h2 => by omega, fun s rs h => atom_wrong text ws _ 0 s rs h⟩
  | n + 1, n' + 1 => by
    have ih := atom_rel (text := text) (ws := ws) hb n n'
    have hc := series_rel (series_rel ih (atomP_ok text n) (atomR_ok ws n') 3 real_and) (conjP_ok text n) (conjR_ok ws n') 4 real_or
    refine ⟨fun s rs h h1 h2 => ?_, fun s rs h => atom_wrong text ws _ _ s rs h⟩
    have hi : rs.inc.i = rs.i + 1 := rfl
    have hbad := h.bad
    unfold atomP atomR
    rw [if_neg (by omega : ¬ 0 ≤ rs.bad)]
    by_cases he1 : peekR ws rs = notW
    · have hlt := (h.word real_not he1).lt
      obtain ⟨e1, k1⟩ := h.isT real_not he1
      have ht := isP_true (w := notW) h.inv (by rw [e1])
      rw [e1] at ht
      have : notW.length = 3 := rfl
      obtain ⟨t1, t2, t3⟩ := ht
      simp only at t1 t2 t3
      rw [e1, if_pos rfl, if_pos he1]
      rcases ih.right _ _ k1 (by omega) (by omega) with ⟨v1, v2⟩ | v1
      · left; exact ⟨v1, by simp only [v2]⟩
      · right; exact v1
    · rw [h.isF real_not he1, if_neg (by simp), if_neg he1]
      simp only
      by_cases he2 : peekR ws rs = lpW
      · have hlt := (h.word real_lp he2).lt
        obtain ⟨e1, k1⟩ := h.isT real_lp he2
        have ht := isP_true (w := lpW) h.inv (by rw [e1])
        rw [e1] at ht
        have : lpW.length = 1 := rfl
        obtain ⟨t1, t2, t3⟩ := ht
        simp only at t1 t2 t3
        rw [e1, if_pos rfl, if_pos he2]
        simp only
        rcases hc.right _ _ k1 (by omega) (by omega) with ⟨v1, v2⟩ | v1
        · rcases v1.needP hb real_rp with x1 | x1
          · left; exact ⟨x1, v2⟩
          · right; exact x1
        · right; exact v1.needP text ws rpW
      · rw [h.isF real_lp he2, if_neg (by simp), if_neg he2]
        simp only
        unfold isAtomP
        rcases h.one hb real_chk with ⟨z1, z2, z3⟩ | ⟨z1, z2, z3⟩
        · rw [z2, if_neg z1]
          simp only
          by_cases he3 : peekR ws rs.inc = isW
          · obtain ⟨y1, y2⟩ := z3.isT real_is he3
            rw [y1, if_pos rfl, if_pos he3]
            simp only
            rcases y2.one hb real_vls with ⟨x1, x2, x3⟩ | ⟨x1, x2, x3⟩
            · rw [x2, if_neg x1]
              left; exact ⟨x3, rfl⟩
            · rw [x2, if_pos x1]
              right; exact x3.inc
          · rw [z3.isF real_is he3, if_neg (by simp), if_neg he3]
            left; exact ⟨z3, rfl⟩
        · rw [z2, if_pos z1]
          simp only
          rw [isP_wr (by rfl), if_neg (by simp)]
          right; exact z3

theorem cond_rel {text : List UInt8} {ws : List Wd} {bro : Int} (hb : bro = -1 ∨ 0 ≤ bro) (n n' : Nat) : PRel text ws bro n n' (condP text n) (condR' ws n') :=
  series_rel (series_rel (atom_rel hb n n') (atomP_ok text n) (atomR_ok ws n') 3 real_and) (conjP_ok text n) (conjR_ok ws n') 4 real_or
end Tdoc
