/- The two parsers agree. -/
import Derived.Test.YtofhpjcdecjejaaP33
set_option linter.unusedVariables false
set_option linter.unusedSimpArgs false
namespace Tdoc
open Go Go.Proofs

theorem rule_rel {text : List UInt8} {ws : List Wd} {bro : Int} (hb : bro = -1 ∨ 0 ≤ bro) {s : PS} {rs : RS} (h : Right text ws bro s rs) :
    (sIdx vds (peekR ws rs) + 1 = 0 ∧ Wrong (ruleP text (text.length + 1) s).2 (failR ws rs)) ∨
    (sIdx vds (peekR ws rs) + 1 ≠ 0 ∧ ((Right text ws bro (ruleP text (text.length + 1) s).2 (ruleR ws rs).2 ∧ (ruleP text (text.length + 1) s).1 = (ruleR ws rs).1) ∨ Wrong (ruleP text (text.length + 1) s).2 (ruleR ws rs).2)) := by
  unfold ruleP ruleR
  rcases h.one hb real_vds with ⟨z1, z2, z3⟩ | ⟨z1, z2, z3⟩
  · right
    refine ⟨z1, ?_⟩
    rw [z2]
    simp only
    by_cases he : peekR ws rs.inc = ifW
    · obtain ⟨y1, y2⟩ := z3.isT real_if he
      rw [y1, if_pos rfl, if_pos he]
      simp only
      rcases (cond_rel hb (text.length + 1) (ws.length + 1)).right _ _ y2 (by omega) (by omega) with ⟨v1, v2⟩ | v1
      · rcases v1.needP hb real_sc with x1 | x1
        · left; exact ⟨x1, by rw [v2]⟩
        · right; exact x1
      · right; exact v1.needP text ws scW
    · rw [z3.isF real_if he, if_neg (by simp), if_neg he]
      rcases z3.needP hb real_sc with x1 | x1
      · left; exact ⟨x1, rfl⟩
      · right; exact x1
  · left
    refine ⟨z1, ?_⟩
    rw [z2]
    simp only
    rw [isP_wr (by rfl), if_neg (by simp)]
    simp only
    have e1 : needP text { s with wr := true } scW = { s with wr := true } := by
      unfold needP; rw [isP_wr (by rfl)]; rfl
    rw [e1]
    exact z3

/-- How both end. -/
def Ends (bro : Int) (p : List Rule × PS) (r : List Rule × RS) : Prop :=
  Wrong p.2 r.2 ∨ (p.1 = r.1 ∧ p.2.wr = false ∧ r.2.bad < 0 ∧ bro = -1) ∨ (p.2.wr = true ∧ r.2.bad < 0 ∧ 0 ≤ bro ∧ (p.2.na : Int) = bro)

theorem rulesP_wrong {text : List UInt8} {s : PS} (h : s.wr = true) : ∀ (m : Nat) (l : List Rule), rulesP text m l s = (l, s)
  | 0, l => rfl
  | m + 1, l => by rw [rulesP, if_neg (by rw [h]; simp)]
theorem rulesR_wrong {ws : List Wd} {s : RS} (h : 0 ≤ s.bad) : ∀ (m : Nat) (l : List Rule), rulesR ws m l s = (l, s)
  | 0, l => rfl
  | m + 1, l => by rw [rulesR, if_neg (by omega)]

theorem rules_rel {text : List UInt8} (hl : text.length ≤ 1000000) {ws : List Wd} (hws : ws.length ≤ 1000000) {bro : Int} (hb : bro = -1 ∨ 0 ≤ bro) : ∀ (m m' : Nat) (l : List Rule) (s : PS) (rs : RS), Right text ws bro s rs → text.length - s.na + 1 < m → ws.length - rs.i < m' →
    Ends bro (rulesP text m l s) (rulesR ws m' l rs)
  | 0, m', l, s, rs, h, h1, h2 => by omega
  | m + 1, 0, l, s, rs, h, h1, h2 => by omega
  | m + 1, m' + 1, l, s, rs, h, h1, h2 => by
    rw [rulesP, rulesR]
    have hbad := h.bad
    have hrr := rule_rel hb h
    rcases h.now with hn | hn
    · have hlt := hn.lt
      rw [if_pos ⟨hn.2.1, h.wr⟩, if_pos ⟨hbad, hlt⟩]
      obtain ⟨k1, k2, k3, k4⟩ := ruleP_ok hl h.inv hn.2.1
      obtain ⟨r1, r2, r3⟩ := ruleR_ok hws hlt
      rcases hrr with ⟨z1, z2⟩ | ⟨z1, z2⟩
      · rw [if_pos z1, rulesP_wrong z2.1]
        exact .inl z2
      · rw [if_neg z1]
        rcases z2 with ⟨z2, z3⟩ | z2
        · rw [z3]
          have hwr := z2.wr
          have := k1.a; have := k1.le
          exact rules_rel hl hws hb m m' _ _ _ z2 (by rw [hwr] at k3; have := k3.resolve_left (by simp); omega) (by omega)
        · rw [rulesP_wrong z2.1, rulesR_wrong z2.2.1]
          exact .inl z2
    · rw [if_neg (by rw [hn.1]; omega : ¬ (rs.bad < 0 ∧ rs.i < ws.length))]
      rcases hn.2.2.2 with ⟨e1, e2⟩ | ⟨e1, e2⟩
      · rw [if_neg (fun hh => hh.1 e1)]
        exact .inr (.inl ⟨rfl, h.wr, hbad, e2⟩)
      · rw [if_pos ⟨e1, h.wr⟩]
        have hz : sIdx vds (peekR ws rs) + 1 = 0 := by
          rw [hn.peek]; decide
        rcases hrr with ⟨z1, z2⟩ | ⟨z1, z2⟩
        · rw [rulesP_wrong z2.1]
          refine .inr (.inr ⟨z2.1, hbad, e2, ?_⟩)
          have h3 := z2.2.2
          have e3 : (failR ws rs).bad = rs.en := by
            unfold failR; rw [if_pos hbad]
            simp only [List.getElem?_eq_none (show ws.length ≤ rs.i by rw [hn.1]; omega)]
          rw [e3, h.en, endR, if_pos e2] at h3
          exact h3.symm
        · exact absurd hz z1

theorem wordsR_bro (text : List UInt8) : ∀ (m i : Nat) (out : List Wd), (wordsR text m i out).2 = -1 ∨ 0 ≤ (wordsR text m i out).2
  | 0, i, out => .inl rfl
  | m + 1, i, out => by
    rw [wordsR]
    split
    · exact .inl rfl
    · split
      · exact wordsR_bro text m _ _
      · split
        · exact wordsR_bro text m _ _
        · split
          · exact wordsR_bro text m _ _
          · split
            · exact wordsR_bro text m _ _
            · right; simp

theorem parsers_agree (text : List UInt8) (hl : text.length ≤ 1000000) : parseP text = parseR text := by
  unfold parseP parseR
  split
  · rfl
  · have hbro := wordsR_bro text (text.length + 1) 0 []
    have hws := wordsR_len text (text.length + 1) 0 [] (by simp) (by simp)
    have hnw := next_words text ⟨0, [], 0, false⟩ (by simp)
    have hi0 : Inv text ⟨0, [], 0, false⟩ := ⟨rfl, by simp⟩
    obtain ⟨i1, i2, i3⟩ := hi0.next
    unfold parseQ parseQR
    change ((wordsR text (text.length + 1) 0 []) = _ ∧ _) ∨ ((wordsR text (text.length + 1) 0 []).1 = [] ∧ _ = endR text (wordsR text (text.length + 1) 0 []).2 ∧ _ ∧ ((_ ∧ (wordsR text (text.length + 1) 0 []).2 = -1) ∨ (_ ∧ 0 ≤ (wordsR text (text.length + 1) 0 []).2))) at hnw
    generalize wordsR text (text.length + 1) 0 [] = wb at hbro hws hnw ⊢
    obtain ⟨ws, bro⟩ := wb
    generalize nextP text ⟨0, [], 0, false⟩ = s at hnw i1 i2 i3 ⊢
    simp only at hbro hws hnw i3 ⊢
    have hR : Right text ws bro s ⟨0, endR text bro, -1⟩ := by
      refine ⟨i3, (by show (-1 : Int) < 0; omega), i1, rfl, ?_⟩
      rcases hnw with ⟨q1, q2⟩ | ⟨q1, q2, q3, q4⟩
      · left
        have e1 := congrArg Prod.fst q1
        have e2 := congrArg Prod.snd q1
        simp only at e1 e2
        refine ⟨by rw [e1]; rfl, q2, ?_⟩
        rw [e1, e2]; rfl
      · right
        exact ⟨by rw [q1]; rfl, q2, q3, q4⟩
    have hE := rules_rel hl (by omega) hbro (text.length + 3) (ws.length + 1) [] s _ hR (by omega) (by simp only; omega)
    generalize rulesP text (text.length + 3) [] s = p at hE ⊢
    generalize rulesR ws (ws.length + 1) [] ⟨0, endR text bro, -1⟩ = r at hE ⊢
    unfold badR
    rcases hE with ⟨h1, h2, h3⟩ | ⟨h1, h2, h3, h4⟩ | ⟨h1, h2, h3, h4⟩
    · rw [if_pos h1, if_neg (by omega : ¬ r.2.bad < 0), if_pos h2, h3]
    · rw [if_neg (by rw [h2]; simp), if_pos h3, h1, if_neg (show ¬ 0 ≤ bro by omega)]
    · rw [if_pos h1, if_pos h2, if_pos h3, h4]
end Tdoc
