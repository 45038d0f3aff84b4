/- The law PolicyParses, given that the two parsers agree. -/
import Derived.Test.YtoaogfehdalmdaaK4
set_option linter.unusedVariables false
set_option linter.unusedSimpArgs false
namespace Tdoc
open Go Go.Proofs

end Tdoc
/- The words of a text, from a place on. No program is named here. -/
set_option linter.unusedVariables false
set_option linter.unusedSimpArgs false
namespace Tdoc
open Go Go.Proofs

theorem skipS_true : ∀ r : List UInt8, skipS true r = cmt r + skipS false (r.drop (cmt r))
  | [] => by simp [skipS, cmt]
  | c :: r => by
    have ih := skipS_true r
    by_cases h : c = 10
    · simp [skipS, cmt, h]
    · simp only [skipS, cmt, if_neg h, List.drop_succ_cons, ih]; omega

theorem wordsR_out (text : List UInt8) : ∀ (m p : Nat) (out : List Wd), wordsR text m p out = (out ++ (wordsR text m p []).1, (wordsR text m p []).2)
  | 0, p, out => by simp [wordsR]
  | m + 1, p, out => by
    rw [wordsR, wordsR]
    cases text.drop p with
    | nil => simp
    | cons c r =>
      simp only
      split
      · exact wordsR_out text m _ out
      · split
        · exact wordsR_out text m _ out
        · split
          · rw [wordsR_out text m _ (out ++ _), wordsR_out text m _ ([] ++ _)]; simp
          · split
            · rw [wordsR_out text m _ (out ++ _), wordsR_out text m _ ([] ++ _)]; simp
            · simp

theorem wordsR_fuel (text : List UInt8) : ∀ (m m' p : Nat) (out : List Wd), text.length - p < m → text.length - p < m' → wordsR text m p out = wordsR text m' p out
  | 0, _, _, _, h, _ => by omega
  | _, 0, _, _, _, h => by omega
  | m + 1, m' + 1, p, out, h1, h2 => by
    rw [wordsR, wordsR]
    cases hd : text.drop p with
    | nil => rfl
    | cons c r =>
      have hlen : (c :: r).length = text.length - p := by rw [← hd]; simp
      simp only [List.length_cons] at hlen
      simp only
      split
      · exact wordsR_fuel text m m' _ _ (by omega) (by omega)
      · split
        · rename_i hc
          have : 0 < cmt (c :: r) := by rw [cmt, if_neg (by rw [hc]; decide)]; omega
          exact wordsR_fuel text m m' _ _ (by omega) (by omega)
        · split
          · exact wordsR_fuel text m m' _ _ (by omega) (by omega)
          · split
            · rename_i hc
              have : 0 < lets (c :: r) := by rw [lets, if_pos hc]; omega
              exact wordsR_fuel text m m' _ _ (by omega) (by omega)
            · rfl

/-- The words from a place on, and where the first byte is that begins no word. -/
def wf (text : List UInt8) (p : Nat) : List Wd × Int := wordsR text (text.length + 1) p []

theorem wf_eq (text : List UInt8) (p : Nat) : wf text p = match text.drop p with
    | [] => ([], -1)
    | c :: r => if c = 32 ∨ c = 10 then wf text (p + 1)
      else if c = 35 then wf text (p + cmt (c :: r))
      else if (c = 40 ∨ c = 41) ∨ c = 59 then (([c], p) :: (wf text (p + 1)).1, (wf text (p + 1)).2)
      else if isLow c = true then (((c :: r).take (lets (c :: r)), p) :: (wf text (p + lets (c :: r))).1, (wf text (p + lets (c :: r))).2)
      else ([], p) := by
  unfold wf
  rw [wordsR]
  cases hd : text.drop p with
  | nil => rfl
  | cons c r =>
    have hlen : (c :: r).length = text.length - p := by rw [← hd]; simp
    simp only [List.length_cons] at hlen
    simp only
    split
    · exact wordsR_fuel text _ _ _ _ (by omega) (by omega)
    · split
      · rename_i hc
        have : 0 < cmt (c :: r) := by rw [cmt, if_neg (by rw [hc]; decide)]; omega
        exact wordsR_fuel text _ _ _ _ (by omega) (by omega)
      · split
        · rw [wordsR_out, wordsR_fuel text text.length (text.length + 1) (p + 1) [] (by omega) (by omega)]; rfl
        · split
          · rename_i hc
            have : 0 < lets (c :: r) := by rw [lets, if_pos hc]; omega
            rw [wordsR_out, wordsR_fuel text text.length (text.length + 1) _ [] (by omega) (by omega)]; rfl
          · rfl

theorem wf_skip (text : List UInt8) : ∀ (m p : Nat), text.length - p < m → wf text p = wf text (p + skipS false (text.drop p))
  | 0, p, h => by omega
  | m + 1, p, h => by
    cases hd : text.drop p with
    | nil => rfl
    | cons c r =>
      have hlen : (c :: r).length = text.length - p := by rw [← hd]; simp
      simp only [List.length_cons] at hlen
      have hr : text.drop (p + 1) = r := by rw [← List.drop_drop, hd]; rfl
      by_cases h1 : c = 32 ∨ c = 10
      · rw [wf_eq, hd]
        simp only [if_pos h1, skipS]
        rw [wf_skip text m (p + 1) (by omega), hr]
        congr 1; omega
      · by_cases h2 : c = 35
        · rw [wf_eq, hd]
          simp only [if_neg h1, if_pos h2, skipS]
          have hcm : cmt (c :: r) = cmt r + 1 := by rw [cmt, if_neg (by rw [h2]; decide)]
          rw [hcm, wf_skip text m (p + (cmt r + 1)) (by omega), skipS_true]
          have : text.drop (p + (cmt r + 1)) = r.drop (cmt r) := by rw [← hr, List.drop_drop]; congr 1; omega
          rw [this]
          congr 1; omega
        · simp [skipS, h1, h2]
end Tdoc
/- The program's next word is the reference's. -/
set_option linter.unusedVariables false
set_option linter.unusedSimpArgs false
namespace Tdoc
open Go Go.Proofs

theorem skip_head : ∀ (b : Bool) (l : List UInt8) (c : UInt8) (r : List UInt8), l.drop (skipS b l) = c :: r → c ≠ 32 ∧ c ≠ 10 ∧ c ≠ 35
  | _, [], c, r, h => by simp at h
  | false, x :: l, c, r, h => by
    by_cases h1 : x = 32 ∨ x = 10
    · simp only [skipS, if_pos h1, List.drop_succ_cons] at h
      exact skip_head false l c r h
    · by_cases h2 : x = 35
      · simp only [skipS, if_neg h1, if_pos h2, List.drop_succ_cons] at h
        exact skip_head true l c r h
      · simp only [skipS, if_neg h1, if_neg h2, List.drop_zero] at h
        obtain ⟨rfl, rfl⟩ := List.cons.inj h
        exact ⟨fun hh => h1 (.inl hh), fun hh => h1 (.inr hh), h2⟩
  | true, x :: l, c, r, h => by
    by_cases h1 : x = 10
    · simp only [skipS, if_pos h1, List.drop_succ_cons] at h
      exact skip_head false l c r h
    · simp only [skipS, if_neg h1, List.drop_succ_cons] at h
      exact skip_head true l c r h

/-- A text that is no word. -/
def Junk (nt : List UInt8) : Prop := nt = [] ∨ ∃ c, nt = [c] ∧ isLow c = false ∧ c ≠ 40 ∧ c ≠ 41 ∧ c ≠ 59

theorem next_words (text : List UInt8) (s : PS) (h : s.a ≤ text.length) :
    (wf text s.a = (((nextP text s).nt, (nextP text s).na) :: (wf text (nextP text s).a).1, (wf text (nextP text s).a).2) ∧ (nextP text s).nt ≠ []) ∨
    ((wf text s.a).1 = [] ∧ (nextP text s).na = endR text (wf text s.a).2 ∧ Junk (nextP text s).nt ∧ (((nextP text s).nt = [] ∧ (wf text s.a).2 = -1) ∨ ((nextP text s).nt ≠ [] ∧ 0 ≤ (wf text s.a).2))) := by
  have hle := skipS_le false (text.drop s.a)
  simp only [List.length_drop] at hle
  have hhead := skip_head false (text.drop s.a)
  rw [wf_skip text (text.length + 1) s.a (by omega)]
  simp only [nextP]
  rw [List.drop_drop] at hhead
  have hq : s.a + skipS false (text.drop s.a) ≤ text.length := by omega
  generalize s.a + skipS false (text.drop s.a) = q at hq hhead ⊢
  rw [wf_eq text q]
  cases hd : text.drop q with
  | nil =>
    right
    have : q = text.length := by have := congrArg List.length hd; simp at this; omega
    exact ⟨by simp, by simp [endR, this], .inl (by simp), .inl ⟨by simp, rfl⟩⟩
  | cons c r =>
    obtain ⟨h1, h2, h3⟩ := hhead c r hd
    have h12 : ¬ (c = 32 ∨ c = 10) := by rintro (hh | hh) <;> contradiction
    simp only [if_neg h12, if_neg h3]
    by_cases h4 : (c = 40 ∨ c = 41) ∨ c = 59
    · left
      have hlow : ¬ isLow c = true := by rcases h4 with (rfl | rfl) | rfl <;> decide
      have hw : wlen (c :: r) = 1 := by simp [wlen, lets, hlow]
      simp only [if_pos h4, hw]
      simp
    · by_cases h5 : isLow c = true
      · left
        have hl : lets (c :: r) = lets r + 1 := by rw [lets, if_pos h5]
        have hw : wlen (c :: r) = lets (c :: r) := by simp [wlen, hl]
        simp only [if_neg h4, if_pos h5, hw]
        simp [hl]
      · right
        have hw : wlen (c :: r) = 1 := by simp [wlen, lets, h5]
        simp only [if_neg h4, if_neg h5, hw]
        refine ⟨by simp, by simp [endR], .inr ⟨c, by simp, by simpa using h5, fun hh => h4 (.inl (.inl hh)), fun hh => h4 (.inl (.inr hh)), fun hh => h4 (.inr hh)⟩, .inr ⟨by simp, by simp⟩⟩
end Tdoc
/- The two parsers' states side by side. -/
set_option linter.unusedVariables false
set_option linter.unusedSimpArgs false
namespace Tdoc
open Go Go.Proofs

def NowW (text : List UInt8) (ws : List Wd) (bro : Int) (s : PS) (i : Nat) : Prop := ws[i]? = some (s.nt, s.na) ∧ s.nt ≠ [] ∧ wf text s.a = (ws.drop (i + 1), bro)
def NowE (text : List UInt8) (ws : List Wd) (bro : Int) (s : PS) (i : Nat) : Prop := i = ws.length ∧ s.na = endR text bro ∧ Junk s.nt ∧ ((s.nt = [] ∧ bro = -1) ∨ (s.nt ≠ [] ∧ 0 ≤ bro))

structure Right (text : List UInt8) (ws : List Wd) (bro : Int) (s : PS) (rs : RS) : Prop where
  wr : s.wr = false
  bad : rs.bad < 0
  inv : Inv text s
  en : rs.en = endR text bro
  now : NowW text ws bro s rs.i ∨ NowE text ws bro s rs.i

def Wrong (s : PS) (rs : RS) : Prop := s.wr = true ∧ 0 ≤ rs.bad ∧ rs.bad = s.na

theorem Right.next {text : List UInt8} {ws : List Wd} {bro : Int} {s : PS} {rs : RS} (h : Right text ws bro s rs) (hn : NowW text ws bro s rs.i) : Right text ws bro (nextP text s) rs.inc := by
  obtain ⟨h1, h2, h3⟩ := hn
  obtain ⟨k1, k2, k3⟩ := h.inv.next
  have hlt := (List.getElem?_eq_some_iff.1 h1).1
  refine ⟨k3.trans h.wr, h.bad, k1, h.en, ?_⟩
  have hw := next_words text s h.inv.le
  rw [h3] at hw
  rcases hw with ⟨q1, q2⟩ | ⟨q1, q2, q3, q4⟩
  · left
    have e1 : ws.drop (rs.i + 1) = ((nextP text s).nt, (nextP text s).na) :: (wf text (nextP text s).a).1 := congrArg Prod.fst q1
    have e2 : bro = (wf text (nextP text s).a).2 := congrArg Prod.snd q1
    refine ⟨?_, q2, ?_⟩
    · show ws[rs.i + 1]? = _
      have := congrArg (fun l => l[0]?) e1
      simpa using this
    · have := congrArg List.tail e1
      rw [List.tail_drop] at this
      show wf text (nextP text s).a = (ws.drop (rs.i + 1 + 1), bro)
      rw [this, e2]; rfl
  · right
    refine ⟨?_, q2, q3, q4⟩
    show rs.i + 1 = ws.length
    have := congrArg List.length q1
    simp at this; omega
end Tdoc
/- What each parser does at one word. -/
set_option linter.unusedVariables false
set_option linter.unusedSimpArgs false
namespace Tdoc
open Go Go.Proofs

theorem NowW.peek {text : List UInt8} {ws : List Wd} {bro : Int} {s : PS} {rs : RS} (h : NowW text ws bro s rs.i) : peekR ws rs = s.nt := by
  unfold peekR; rw [h.1]
theorem NowE.peek {text : List UInt8} {ws : List Wd} {bro : Int} {s : PS} {rs : RS} (h : NowE text ws bro s rs.i) : peekR ws rs = [] := by
  unfold peekR; rw [List.getElem?_eq_none (by rw [h.1]; omega)]

/-- A text that a word can be. -/
def Real (w : List UInt8) : Prop := w ≠ [] ∧ ∀ c, w = [c] → isLow c = true ∨ c = 40 ∨ c = 41 ∨ c = 59

theorem Junk.ne {nt w : List UInt8} (h : Junk nt) (hw : Real w) : nt ≠ w := by
  rintro rfl
  rcases h with h | ⟨c, h1, h2, h3, h4, h5⟩
  · exact hw.1 h
  · rcases hw.2 c h1 with q | q | q | q
    · rw [h2] at q; cases q
    · exact h3 q
    · exact h4 q
    · exact h5 q

theorem Right.peek {text : List UInt8} {ws : List Wd} {bro : Int} {s : PS} {rs : RS} (h : Right text ws bro s rs) {w : List UInt8} (hw : Real w) : (s.nt = w ↔ peekR ws rs = w) := by
  rcases h.now with hn | hn
  · rw [hn.peek]
  · rw [hn.peek]
    exact ⟨fun hh => absurd hh (hn.2.2.1.ne hw), fun hh => absurd hh.symm hw.1⟩

/-- The next word stands there, if it is a word at all. -/
theorem Right.word {text : List UInt8} {ws : List Wd} {bro : Int} {s : PS} {rs : RS} (h : Right text ws bro s rs) {w : List UInt8} (hw : Real w) (he : peekR ws rs = w) : NowW text ws bro s rs.i := by
  rcases h.now with hn | hn
  · exact hn
  · rw [hn.peek] at he; exact absurd he.symm hw.1

theorem Right.fail {text : List UInt8} {ws : List Wd} {bro : Int} {s : PS} {rs : RS} (h : Right text ws bro s rs) (hb : bro = -1 ∨ 0 ≤ bro) : Wrong { s with wr := true } (failR ws rs) := by
  unfold failR
  rw [if_pos h.bad]
  rcases h.now with hn | hn
  · refine ⟨rfl, ?_, ?_⟩ <;> simp only [hn.1] <;> simp
  · have he : ws[rs.i]? = none := List.getElem?_eq_none (by rw [hn.1]; omega)
    have h2 := hn.2.1
    refine ⟨rfl, ?_, ?_⟩
    · simp only [he, h.en]; rw [← h2]; omega
    · simp only [he, h.en]; exact h2.symm
end Tdoc
/- What each parser does at one word: is, one, need. -/
set_option linter.unusedVariables false
set_option linter.unusedSimpArgs false
namespace Tdoc
open Go Go.Proofs

section
variable {text : List UInt8} {ws : List Wd} {bro : Int} {s : PS} {rs : RS}

theorem Right.isT (h : Right text ws bro s rs) {w : List UInt8} (hw : Real w) (he : peekR ws rs = w) : isP text s w = (true, nextP text s) ∧ Right text ws bro (nextP text s) rs.inc := by
  have hn := h.word hw he
  refine ⟨?_, h.next hn⟩
  unfold isP
  rw [if_neg (by rw [h.wr]; simp; exact (h.peek hw).2 he)]
theorem Right.isF (h : Right text ws bro s rs) {w : List UInt8} (hw : Real w) (he : peekR ws rs ≠ w) : isP text s w = (false, s) := by
  unfold isP
  rw [if_pos (.inr fun hh => he ((h.peek hw).1 hh))]

theorem Right.idx (h : Right text ws bro s rs) {l : List (List UInt8)} (hl : ∀ w, w ∈ l → Real w) : sIdx l s.nt = sIdx l (peekR ws rs) := by
  rcases h.now with hn | hn
  · rw [hn.peek]
  · rw [hn.peek]
    have e1 : sIdx l s.nt = -1 := sIdx_none fun j hj hh => hn.2.2.1.ne (hl _ (List.getElem_mem hj)) hh.symm
    have e2 : sIdx l [] = -1 := sIdx_none fun j hj hh => (hl _ (List.getElem_mem hj)).1 hh
    rw [e1, e2]

theorem Wrong.inc (h : Wrong s rs) : Wrong s rs.inc := h
theorem Wrong.needP (h : Wrong s rs) (text : List UInt8) (ws : List Wd) (w : List UInt8) : Wrong (needP text s w) (takeR ws rs w) := by
  have e1 : Tdoc.needP text s w = s := by
    unfold Tdoc.needP; rw [isP_wr h.1]
    cases s; simp only [Wrong] at h; simp [h.1]
  have e2 : (takeR ws rs w).bad = rs.bad := by unfold takeR; rw [if_neg (by have := h.2.1; omega)]
  rw [e1]
  exact ⟨h.1, by rw [e2]; exact h.2.1, by rw [e2]; exact h.2.2⟩

theorem Right.needP (h : Right text ws bro s rs) (hb : bro = -1 ∨ 0 ≤ bro) {w : List UInt8} (hw : Real w) : Right text ws bro (needP text s w) (takeR ws rs w) ∨ Wrong (needP text s w) (takeR ws rs w) := by
  by_cases he : peekR ws rs = w
  · left
    obtain ⟨h1, h2⟩ := h.isT hw he
    have e2 : takeR ws rs w = rs.inc := by unfold takeR; rw [if_neg (fun hh => hh.2 he)]; rfl
    unfold Tdoc.needP
    rw [h1, e2]
    exact h2
  · right
    have e2 : takeR ws rs w = { failR ws rs with i := rs.i + 1 } := by unfold takeR; rw [if_pos ⟨h.bad, he⟩]
    unfold Tdoc.needP
    rw [h.isF hw he, e2]
    exact h.fail hb
end
end Tdoc
/- Series of conditions in both parsers. -/
set_option linter.unusedVariables false
set_option linter.unusedSimpArgs false
namespace Tdoc
open Go Go.Proofs

structure PRel (text : List UInt8) (ws : List Wd) (bro : Int) (n n' : Nat) (part : PS → Cond × PS) (partR : RS → Cond × RS) : Prop where
  right : ∀ s rs, Right text ws bro s rs → text.length - s.na < n → ws.length - rs.i < n' → (Right text ws bro (part s).2 (partR rs).2 ∧ (part s).1 = (partR rs).1) ∨ Wrong (part s).2 (partR rs).2
  wrong : ∀ s rs, Wrong s rs → Wrong (part s).2 (partR rs).2

theorem loopP_wrong {text : List UInt8} {kind : Int} {w : List UInt8} {part : PS → Cond × PS} {s : PS} (h : s.wr = true) : ∀ (m : Nat) (l : List Cond), loopP text kind w part m l s = (l, s)
  | 0, l => rfl
  | m + 1, l => by rw [loopP, isP_wr h]; rfl
theorem loopR_wrong {ws : List Wd} {w : List UInt8} {part : RS → Cond × RS} {s : RS} (h : 0 ≤ s.bad) : ∀ (m : Nat) (l : List Cond), loopR ws w part m l s = (l, s)
  | 0, l => rfl
  | m + 1, l => by rw [loopR, if_neg (by omega)]

theorem NowW.lt {text : List UInt8} {ws : List Wd} {bro : Int} {s : PS} {i : Nat} (h : NowW text ws bro s i) : i < ws.length := (List.getElem?_eq_some_iff.1 h.1).1

theorem loop_rel {text : List UInt8} {ws : List Wd} {bro : Int} {n n' : Nat} {part : PS → Cond × PS} {partR : RS → Cond × RS} (hr : PRel text ws bro n n' part partR) (hp : PartOk text n part) (hpR : POk ws n' partR) (kind : Int) {w : List UInt8} (hw : Real w) :
    ∀ (m m' : Nat) (l : List Cond) (s : PS) (rs : RS), Right text ws bro s rs → text.length - s.na < n → text.length - s.na < m → ws.length - rs.i < n' + 1 → ws.length - rs.i < m' →
      (Right text ws bro (loopP text kind w part m (flatL kind l) s).2 (loopR ws w partR m' l rs).2 ∧ (loopP text kind w part m (flatL kind l) s).1 = flatL kind (loopR ws w partR m' l rs).1 ∧ l.length + (if peekR ws rs = w then 1 else 0) ≤ (loopR ws w partR m' l rs).1.length)
      ∨ Wrong (loopP text kind w part m (flatL kind l) s).2 (loopR ws w partR m' l rs).2
  | 0, m', l, s, rs, h, h1, h2, h3, h4 => by omega
  | m + 1, 0, l, s, rs, h, h1, h2, h3, h4 => by omega
  | m + 1, m' + 1, l, s, rs, h, h1, h2, h3, h4 => by
    rw [loopP, loopR]
    by_cases he : peekR ws rs = w
    · have hn := (h.word hw he).lt
      have hb := h.bad
      obtain ⟨e1, k1⟩ := h.isT hw he
      have ht := isP_true (w := w) h.inv (by rw [e1])
      rw [e1] at ht
      obtain ⟨t1, t2, t3⟩ := ht
      simp only at t1 t2 t3
      have hwl : 0 < w.length := List.length_pos_iff.2 hw.1
      have hi : rs.inc.i = rs.i + 1 := rfl
      obtain ⟨q1, q2, q3⟩ := hp.inv _ t1 (by omega)
      obtain ⟨r1, r2, r3⟩ := hpR.inv rs.inc (by omega) (by omega)
      rw [e1, if_pos rfl, if_pos ⟨hb, he⟩]
      rcases hr.right _ _ k1 (by omega) (by omega) with ⟨v1, v2⟩ | v1
      · rw [v2, ← flatL_one, ← flatL_append]
        rcases loop_rel hr hp hpR kind hw m m' (l ++ [(partR rs.inc).1]) _ _ v1 (by omega) (by omega) (by omega) (by omega) with ⟨x1, x2, x3⟩ | x1
        · left
          refine ⟨x1, x2, ?_⟩
          rw [if_pos he]
          rw [List.length_append, List.length_singleton] at x3
          omega
        · right; exact x1
      · right
        rw [loopP_wrong v1.1, loopR_wrong v1.2.1]
        exact v1
    · rw [h.isF hw he, if_neg (by simp), if_neg (fun hh => he hh.2)]
      left
      exact ⟨h, rfl, by rw [if_neg he]; simp⟩
end Tdoc
/- Conditions in both parsers. -/
set_option linter.unusedVariables false
set_option linter.unusedSimpArgs false
namespace Tdoc
open Go Go.Proofs

theorem Right.le {text : List UInt8} {ws : List Wd} {bro : Int} {s : PS} {rs : RS} (h : Right text ws bro s rs) : rs.i ≤ ws.length := by
  rcases h.now with hn | hn
  · have := hn.lt; omega
  · rw [hn.1]; omega

theorem series_rel {text : List UInt8} {ws : List Wd} {bro : Int} {n n' : Nat} {part : PS → Cond × PS} {partR : RS → Cond × RS} (hr : PRel text ws bro n n' part partR) (hp : PartOk text n part) (hpR : POk ws n' partR) (kind : Int) {w : List UInt8} (hw : Real w) :
    PRel text ws bro n n' (seriesP text kind w part) (seriesR ws kind w partR) := by
  refine ⟨fun s rs h h1 h2 => ?_, fun s rs h => ?_⟩
  · obtain ⟨q1, q2, q3⟩ := hp.inv s h.inv h1
    obtain ⟨r1, r2, r3⟩ := hpR.inv rs h.le h2
    unfold seriesP seriesR
    rcases hr.right s rs h h1 h2 with ⟨v1, v2⟩ | v1
    · by_cases he : peekR ws (partR rs).2 = w
      · have hnt := (v1.peek hw).2 he
        rw [if_neg (by rw [v1.wr]; simp; exact hnt)]
        have hl := loop_rel hr hp hpR kind hw (text.length + 1) (ws.length + 1) [(partR rs).1] _ _ v1 (by omega) (by omega) (by omega) (by omega)
        rw [flatL_one, ← v2] at hl
        rcases hl with ⟨x1, x2, x3⟩ | x1
        · left
          rw [← v2]
          refine ⟨x1, ?_⟩
          simp only
          rw [x2]
          rw [if_pos he] at x3
          generalize (loopR ws w partR (ws.length + 1) [(part s).1] (partR rs).2).1 = L at x3
          unfold joinR
          split
          · simp at x3
          · rfl
        · right; rw [← v2]; exact x1
      · left
        rw [if_pos (.inl fun hh => he ((v1.peek hw).1 hh))]
        have e1 : loopR ws w partR (ws.length + 1) [(partR rs).1] (partR rs).2 = ([(partR rs).1], (partR rs).2) := by
          rw [loopR, if_neg (fun hh => he hh.2)]
        rw [e1]
        exact ⟨v1, v2⟩
    · right
      rw [if_pos (.inr v1.1), loopR_wrong v1.2.1]
      exact v1
  · have v1 := hr.wrong s rs h
    unfold seriesP seriesR
    rw [if_pos (.inr v1.1), loopR_wrong v1.2.1]
    exact v1

theorem real_not : Real notW := ⟨by decide, fun c h => by simp [notW] at h⟩
theorem real_and : Real andW := ⟨by decide, fun c h => by simp [andW] at h⟩
theorem real_or : Real orW := ⟨by decide, fun c h => by simp [orW] at h⟩
theorem real_is : Real isW := ⟨by decide, fun c h => by simp [isW] at h⟩
theorem real_if : Real ifW := ⟨by decide, fun c h => by simp [ifW] at h⟩
theorem real_lp : Real lpW := ⟨by decide, fun c h => by simp [lpW] at h; simp [← h]⟩
theorem real_rp : Real rpW := ⟨by decide, fun c h => by simp [rpW] at h; simp [← h]⟩
theorem real_sc : Real scW := ⟨by decide, fun c h => by simp [scW] at h; simp [← h]⟩
theorem real_long {w : List UInt8} (h : 2 ≤ w.length) : Real w := ⟨by rintro rfl; simp at h, fun c hc => by subst hc; simp at h⟩
theorem real_chk : ∀ w, w ∈ chk → Real w := fun w hw => real_long ((by decide : ∀ w, w ∈ chk → 2 ≤ w.length) w hw)
theorem real_vls : ∀ w, w ∈ vls → Real w := fun w hw => real_long ((by decide : ∀ w, w ∈ vls → 2 ≤ w.length) w hw)
theorem real_vds : ∀ w, w ∈ vds → Real w := fun w hw => real_long ((by decide : ∀ w, w ∈ vds → 2 ≤ w.length) w hw)
end Tdoc
/- The smallest conditions in both parsers. -/
set_option linter.unusedVariables false
set_option linter.unusedSimpArgs false
namespace Tdoc
open Go Go.Proofs

theorem Right.one {text : List UInt8} {ws : List Wd} {bro : Int} {s : PS} {rs : RS} (h : Right text ws bro s rs) (hb : bro = -1 ∨ 0 ≤ bro) {l : List (List UInt8)} (hl : ∀ w, w ∈ l → Real w) :
    (sIdx l (peekR ws rs) + 1 ≠ 0 ∧ oneP text s l = (sIdx l (peekR ws rs) + 1, nextP text s) ∧ Right text ws bro (nextP text s) rs.inc) ∨ (sIdx l (peekR ws rs) + 1 = 0 ∧ oneP text s l = (0, { s with wr := true }) ∧ Wrong { s with wr := true } (failR ws rs)) := by
  have he := h.idx hl
  unfold oneP
  rw [he]
  by_cases hz : sIdx l (peekR ws rs) + 1 = 0
  · right
    rw [if_pos (.inl hz)]
    exact ⟨hz, rfl, h.fail hb⟩
  · left
    rw [if_neg (by rintro (hh | hh); exact hz hh; rw [h.wr] at hh; cases hh)]
    refine ⟨hz, rfl, h.next ?_⟩
    rcases h.now with hn | hn
    · exact hn
    · rw [hn.peek] at hz
      exact absurd (by rw [sIdx_none fun j hj hh => (hl _ (List.getElem_mem hj)).1 hh]; rfl) hz

theorem set_wr {s : PS} (h : s.wr = true) : { s with wr := true } = s := by cases s; simp at h; simp [h]
theorem oneP_wr {text : List UInt8} {s : PS} {l : List (List UInt8)} (h : s.wr = true) : oneP text s l = (0, s) := by unfold oneP; rw [if_pos (.inr h), set_wr h]

theorem atom_wrong (text : List UInt8) (ws : List Wd) (n n' : Nat) (s : PS) (rs : RS) (h : Wrong s rs) : Wrong (atomP text n s).2 (atomR ws n' rs).2 := by
  have e1 : (atomP text n s).2 = s := by
    cases n with
    | zero => rfl
    | succ n =>
      unfold atomP
      rw [isP_wr h.1]
      simp only
      rw [if_neg (by simp), isP_wr h.1, if_neg (by simp)]
      unfold isAtomP
      rw [oneP_wr h.1]
      simp only
      rw [isP_wr h.1]
      rfl
  have e2 : (atomR ws n' rs).2 = rs := by
    cases n' with
    | zero => rfl
    | succ n' => unfold atomR; rw [if_pos h.2.1]
  rw [e1, e2]; exact h

theorem atom_rel {text : List UInt8} {ws : List Wd} {bro : Int} (hb : bro = -1 ∨ 0 ≤ bro) : ∀ (n n' : Nat), PRel text ws bro n n' (atomP text n) (atomR ws n')
  | 0, n' => ⟨fun s rs _ h1 _ => by omega, fun s rs h => atom_wrong text ws 0 n' s rs h⟩
  | n + 1, 0 => ⟨fun s rs _ _ h2 => by omega, fun s rs h => atom_wrong text ws _ 0 s rs h⟩
  | n + 1, n' + 1 => by
    have ih := atom_rel (text := text) (ws := ws) hb n n'
    have hc := series_rel (series_rel ih (atomP_ok text n) (atomR_ok ws n') 3 real_and) (conjP_ok text n) (conjR_ok ws n') 4 real_or
    refine ⟨fun s rs h h1 h2 => ?_, fun s rs h => atom_wrong text ws _ _ s rs h⟩
    have hi : rs.inc.i = rs.i + 1 := rfl
    have hbad := h.bad
    unfold atomP atomR
    rw [if_neg (by omega : ¬ 0 ≤ rs.bad)]
    by_cases he1 : peekR ws rs = notW
    · have hlt := (h.word real_not he1).lt
      obtain ⟨e1, k1⟩ := h.isT real_not he1
      have ht := isP_true (w := notW) h.inv (by rw [e1])
      rw [e1] at ht
      have : notW.length = 3 := rfl
      obtain ⟨t1, t2, t3⟩ := ht
      simp only at t1 t2 t3
      rw [e1, if_pos rfl, if_pos he1]
      rcases ih.right _ _ k1 (by omega) (by omega) with ⟨v1, v2⟩ | v1
      · left; exact ⟨v1, by simp only [v2]⟩
      · right; exact v1
    · rw [h.isF real_not he1, if_neg (by simp), if_neg he1]
      simp only
      by_cases he2 : peekR ws rs = lpW
      · have hlt := (h.word real_lp he2).lt
        obtain ⟨e1, k1⟩ := h.isT real_lp he2
        have ht := isP_true (w := lpW) h.inv (by rw [e1])
        rw [e1] at ht
        have : lpW.length = 1 := rfl
        obtain ⟨t1, t2, t3⟩ := ht
        simp only at t1 t2 t3
        rw [e1, if_pos rfl, if_pos he2]
        simp only
        rcases hc.right _ _ k1 (by omega) (by omega) with ⟨v1, v2⟩ | v1
        · rcases v1.needP hb real_rp with x1 | x1
          · left; exact ⟨x1, v2⟩
          · right; exact x1
        · right; exact v1.needP text ws rpW
      · rw [h.isF real_lp he2, if_neg (by simp), if_neg he2]
        simp only
        unfold isAtomP
        rcases h.one hb real_chk with ⟨z1, z2, z3⟩ | ⟨z1, z2, z3⟩
        · rw [z2, if_neg z1]
          simp only
          by_cases he3 : peekR ws rs.inc = isW
          · obtain ⟨y1, y2⟩ := z3.isT real_is he3
            rw [y1, if_pos rfl, if_pos he3]
            simp only
            rcases y2.one hb real_vls with ⟨x1, x2, x3⟩ | ⟨x1, x2, x3⟩
            · rw [x2, if_neg x1]
              left; exact ⟨x3, rfl⟩
            · rw [x2, if_pos x1]
              right; exact x3.inc
          · rw [z3.isF real_is he3, if_neg (by simp), if_neg he3]
            left; exact ⟨z3, rfl⟩
        · rw [z2, if_pos z1]
          simp only
          rw [isP_wr (by rfl), if_neg (by simp)]
          right; exact z3

theorem cond_rel {text : List UInt8} {ws : List Wd} {bro : Int} (hb : bro = -1 ∨ 0 ≤ bro) (n n' : Nat) : PRel text ws bro n n' (condP text n) (condR' ws n') :=
  series_rel (series_rel (atom_rel hb n n') (atomP_ok text n) (atomR_ok ws n') 3 real_and) (conjP_ok text n) (conjR_ok ws n') 4 real_or
end Tdoc
/- The two parsers agree. -/
set_option linter.unusedVariables false
set_option linter.unusedSimpArgs false
namespace Tdoc
open Go Go.Proofs

theorem rule_rel {text : List UInt8} {ws : List Wd} {bro : Int} (hb : bro = -1 ∨ 0 ≤ bro) {s : PS} {rs : RS} (h : Right text ws bro s rs) :
    (sIdx vds (peekR ws rs) + 1 = 0 ∧ Wrong (ruleP text (text.length + 1) s).2 (failR ws rs)) ∨
    (sIdx vds (peekR ws rs) + 1 ≠ 0 ∧ ((Right text ws bro (ruleP text (text.length + 1) s).2 (ruleR ws rs).2 ∧ (ruleP text (text.length + 1) s).1 = (ruleR ws rs).1) ∨ Wrong (ruleP text (text.length + 1) s).2 (ruleR ws rs).2)) := by
  unfold ruleP ruleR
  rcases h.one hb real_vds with ⟨z1, z2, z3⟩ | ⟨z1, z2, z3⟩
  · right
    refine ⟨z1, ?_⟩
    rw [z2]
    simp only
    by_cases he : peekR ws rs.inc = ifW
    · obtain ⟨y1, y2⟩ := z3.isT real_if he
      rw [y1, if_pos rfl, if_pos he]
      simp only
      rcases (cond_rel hb (text.length + 1) (ws.length + 1)).right _ _ y2 (by omega) (by omega) with ⟨v1, v2⟩ | v1
      · rcases v1.needP hb real_sc with x1 | x1
        · left; exact ⟨x1, by rw [v2]⟩
        · right; exact x1
      · right; exact v1.needP text ws scW
    · rw [z3.isF real_if he, if_neg (by simp), if_neg he]
      rcases z3.needP hb real_sc with x1 | x1
      · left; exact ⟨x1, rfl⟩
      · right; exact x1
  · left
    refine ⟨z1, ?_⟩
    rw [z2]
    simp only
    rw [isP_wr (by rfl), if_neg (by simp)]
    simp only
    have e1 : needP text { s with wr := true } scW = { s with wr := true } := by
      unfold needP; rw [isP_wr (by rfl)]; rfl
    rw [e1]
    exact z3

/-- How both end. -/
def Ends (bro : Int) (p : List Rule × PS) (r : List Rule × RS) : Prop :=
  Wrong p.2 r.2 ∨ (p.1 = r.1 ∧ p.2.wr = false ∧ r.2.bad < 0 ∧ bro = -1) ∨ (p.2.wr = true ∧ r.2.bad < 0 ∧ 0 ≤ bro ∧ (p.2.na : Int) = bro)

theorem rulesP_wrong {text : List UInt8} {s : PS} (h : s.wr = true) : ∀ (m : Nat) (l : List Rule), rulesP text m l s = (l, s)
  | 0, l => rfl
  | m + 1, l => by rw [rulesP, if_neg (by rw [h]; simp)]
theorem rulesR_wrong {ws : List Wd} {s : RS} (h : 0 ≤ s.bad) : ∀ (m : Nat) (l : List Rule), rulesR ws m l s = (l, s)
  | 0, l => rfl
  | m + 1, l => by rw [rulesR, if_neg (by omega)]

theorem rules_rel {text : List UInt8} (hl : text.length ≤ 1000000) {ws : List Wd} (hws : ws.length ≤ 1000000) {bro : Int} (hb : bro = -1 ∨ 0 ≤ bro) : ∀ (m m' : Nat) (l : List Rule) (s : PS) (rs : RS), Right text ws bro s rs → text.length - s.na + 1 < m → ws.length - rs.i < m' →
    Ends bro (rulesP text m l s) (rulesR ws m' l rs)
  | 0, m', l, s, rs, h, h1, h2 => by omega
  | m + 1, 0, l, s, rs, h, h1, h2 => by omega
  | m + 1, m' + 1, l, s, rs, h, h1, h2 => by
    rw [rulesP, rulesR]
    have hbad := h.bad
    have hrr := rule_rel hb h
    rcases h.now with hn | hn
    · have hlt := hn.lt
      rw [if_pos ⟨hn.2.1, h.wr⟩, if_pos ⟨hbad, hlt⟩]
      obtain ⟨k1, k2, k3, k4⟩ := ruleP_ok hl h.inv hn.2.1
      obtain ⟨r1, r2, r3⟩ := ruleR_ok hws hlt
      rcases hrr with ⟨z1, z2⟩ | ⟨z1, z2⟩
      · rw [if_pos z1, rulesP_wrong z2.1]
        exact .inl z2
      · rw [if_neg z1]
        rcases z2 with ⟨z2, z3⟩ | z2
        · rw [z3]
          have hwr := z2.wr
          have := k1.a; have := k1.le
          exact rules_rel hl hws hb m m' _ _ _ z2 (by rw [hwr] at k3; have := k3.resolve_left (by simp); omega) (by omega)
        · rw [rulesP_wrong z2.1, rulesR_wrong z2.2.1]
          exact .inl z2
    · rw [if_neg (by rw [hn.1]; omega : ¬ (rs.bad < 0 ∧ rs.i < ws.length))]
      rcases hn.2.2.2 with ⟨e1, e2⟩ | ⟨e1, e2⟩
      · rw [if_neg (fun hh => hh.1 e1)]
        exact .inr (.inl ⟨rfl, h.wr, hbad, e2⟩)
      · rw [if_pos ⟨e1, h.wr⟩]
        have hz : sIdx vds (peekR ws rs) + 1 = 0 := by
          rw [hn.peek]; decide
        rcases hrr with ⟨z1, z2⟩ | ⟨z1, z2⟩
        · rw [rulesP_wrong z2.1]
          refine .inr (.inr ⟨z2.1, hbad, e2, ?_⟩)
          have h3 := z2.2.2
          have e3 : (failR ws rs).bad = rs.en := by
            unfold failR; rw [if_pos hbad]
            simp only [List.getElem?_eq_none (show ws.length ≤ rs.i by rw [hn.1]; omega)]
          rw [e3, h.en, endR, if_pos e2] at h3
          exact h3.symm
        · exact absurd hz z1

theorem wordsR_bro (text : List UInt8) : ∀ (m i : Nat) (out : List Wd), (wordsR text m i out).2 = -1 ∨ 0 ≤ (wordsR text m i out).2
  | 0, i, out => .inl rfl
  | m + 1, i, out => by
    rw [wordsR]
    split
    · exact .inl rfl
    · split
      · exact wordsR_bro text m _ _
      · split
        · exact wordsR_bro text m _ _
        · split
          · exact wordsR_bro text m _ _
          · split
            · exact wordsR_bro text m _ _
            · right; simp

theorem parsers_agree (text : List UInt8) (hl : text.length ≤ 1000000) : parseP text = parseR text := by
  unfold parseP parseR
  split
  · rfl
  · have hbro := wordsR_bro text (text.length + 1) 0 []
    have hws := wordsR_len text (text.length + 1) 0 [] (by simp) (by simp)
    have hnw := next_words text ⟨0, [], 0, false⟩ (by simp)
    have hi0 : Inv text ⟨0, [], 0, false⟩ := ⟨rfl, by simp⟩
    obtain ⟨i1, i2, i3⟩ := hi0.next
    unfold parseQ parseQR
    change ((wordsR text (text.length + 1) 0 []) = _ ∧ _) ∨ ((wordsR text (text.length + 1) 0 []).1 = [] ∧ _ = endR text (wordsR text (text.length + 1) 0 []).2 ∧ _ ∧ ((_ ∧ (wordsR text (text.length + 1) 0 []).2 = -1) ∨ (_ ∧ 0 ≤ (wordsR text (text.length + 1) 0 []).2))) at hnw
    generalize wordsR text (text.length + 1) 0 [] = wb at hbro hws hnw ⊢
    obtain ⟨ws, bro⟩ := wb
    generalize nextP text ⟨0, [], 0, false⟩ = s at hnw i1 i2 i3 ⊢
    simp only at hbro hws hnw i3 ⊢
    have hR : Right text ws bro s ⟨0, endR text bro, -1⟩ := by
      refine ⟨i3, (by show (-1 : Int) < 0; omega), i1, rfl, ?_⟩
      rcases hnw with ⟨q1, q2⟩ | ⟨q1, q2, q3, q4⟩
      · left
        have e1 := congrArg Prod.fst q1
        have e2 := congrArg Prod.snd q1
        simp only at e1 e2
        refine ⟨by rw [e1]; rfl, q2, ?_⟩
        rw [e1, e2]; rfl
      · right
        exact ⟨by rw [q1]; rfl, q2, q3, q4⟩
    have hE := rules_rel hl (by omega) hbro (text.length + 3) (ws.length + 1) [] s _ hR (by omega) (by simp only; omega)
    generalize rulesP text (text.length + 3) [] s = p at hE ⊢
    generalize rulesR ws (ws.length + 1) [] ⟨0, endR text bro, -1⟩ = r at hE ⊢
    unfold badR
    rcases hE with ⟨h1, h2, h3⟩ | ⟨h1, h2, h3, h4⟩ | ⟨h1, h2, h3, h4⟩
    · rw [if_pos h1, if_neg (by omega : ¬ r.2.bad < 0), if_pos h2, h3]
    · rw [if_neg (by rw [h2]; simp), if_pos h3, h1, if_neg (show ¬ 0 ≤ bro by omega)]
    · rw [if_pos h1, if_pos h2, if_pos h3, h4]
end Tdoc
/- The text of a policy, in plain Lean: what write and Format return; how long it is. -/
set_option linter.unusedVariables false
set_option linter.unusedSimpArgs false
namespace Tdoc
open Go Go.Proofs

def nameOf (l : List (List UInt8)) (n : Int) : List UInt8 := if n < 1 ∨ n > l.length then [] else (l[(n - 1).toNat]?).getD []

/-- Lists of bytes with something between them. -/
def between (sep : List UInt8) : List (List UInt8) → List UInt8
  | [] => []
  | [a] => a
  | a :: l => a ++ (sep ++ between sep l)
def kindOf : Cond → Int
  | .mk k _ _ _ => k
def wrapS (c : Cond) (s : List UInt8) : List UInt8 := if kindOf c = 3 ∨ kindOf c = 4 then 40 :: (s ++ [41]) else s
def writeF : Nat → Cond → List UInt8
  | 0, _ => []
  | d + 1, .mk k c v kids =>
    if k = 1 then nameOf chk c ++ (if v = 1 then [] else [32, 105, 115, 32] ++ nameOf vls v)
    else if k = 2 then [110, 111, 116, 32] ++ (match kids with
      | x :: _ => wrapS x (writeF d x)
      | [] => [])
    else if k = 3 then between [32, 97, 110, 100, 32] (kids.map fun x => wrapS x (writeF d x))
    else between [32, 111, 114, 32] (kids.map (writeF d))
def ruleF : Rule → List UInt8
  | .mk v al c => nameOf vds v ++ ((if al = true then [] else [32, 105, 102, 32] ++ writeF 8 c) ++ [59, 10])
def formatF (rs : List Rule) : List UInt8 := if validPol rs ≠ 0 then [] else rs.flatMap ruleF

/-! how long -/
theorem between_len (sep : List UInt8) (b : Nat) : ∀ (l : List (List UInt8)), (∀ x, x ∈ l → x.length ≤ b) → (between sep l).length ≤ l.length * (b + sep.length)
  | [], _ => by simp [between]
  | [a], h => by have := h a (by simp); simp [between]; omega
  | a :: x :: l, h => by
    have h1 := h a (by simp)
    have ih := between_len sep b (x :: l) (fun y hy => h y (by simp [hy]))
    simp only [between, List.length_append]
    rw [List.length_cons, Nat.succ_mul]
    omega
theorem wrapS_len (c : Cond) (s : List UInt8) : (wrapS c s).length ≤ s.length + 2 := by
  unfold wrapS; split <;> simp
theorem nameOf_len {l : List (List UInt8)} {b : Nat} (h : ∀ x, x ∈ l → x.length ≤ b) (n : Int) : (nameOf l n).length ≤ b := by
  unfold nameOf
  split
  · simp
  · cases hx : l[(n - 1).toNat]? with
    | none => simp
    | some x => simpa using h x (List.mem_of_getElem? hx)
theorem chk_len (n : Int) : (nameOf chk n).length ≤ 10 := nameOf_len (by decide) n
theorem vls_len (n : Int) : (nameOf vls n).length ≤ 7 := nameOf_len (by decide) n
theorem vds_len (n : Int) : (nameOf vds n).length ≤ 6 := nameOf_len (by decide) n

theorem leaf_len (k : Nat) (l : List Int) (a : Nat) : (writeF k (leafM l a).1).length ≤ 21 := by
  cases k with
  | zero => simp [writeF]
  | succ k =>
    have h1 := chk_len (1 + nextV l a 13)
    have h2 := vls_len (1 + nextV l (nextA l a) 4)
    simp only [leafM, writeF, if_true]
    split <;> simp <;> omega

def capW : Nat → Nat
  | 0 => 21
  | d + 1 => 3 * (capW d + 7)
theorem capW_ge (d : Nat) : 21 ≤ capW d := by
  induction d with
  | zero => exact Nat.le_refl _
  | succ d ih => rw [capW]; omega

theorem kidsL_all {f : Nat → Cond × Nat} {p : Cond → Prop} (h : ∀ a, p (f a).1) : ∀ (n : Nat) (acc : List Cond) (a : Nat), (∀ c, c ∈ acc → p c) → (∀ c, c ∈ (kidsL f n acc a).1 → p c) ∧ (kidsL f n acc a).1.length = acc.length + n
  | 0, acc, a, hacc => ⟨hacc, rfl⟩
  | n + 1, acc, a, hacc => by
    rw [kidsL]
    have := kidsL_all h n (acc ++ [(f a).1]) (f a).2 (fun c hc => by
      rcases List.mem_append.1 hc with hc | hc
      · exact hacc c hc
      · simp at hc; subst hc; exact h a)
    refine ⟨this.1, ?_⟩
    rw [this.2]; simp; omega

theorem condM_len (l : List Int) : ∀ (d : Nat) (nt : Int) (a : Nat) (k : Nat), (writeF k (condM l d nt a).1).length ≤ capW d
  | 0, nt, a, k => leaf_len k l _
  | d + 1, nt, a, 0 => by simp [writeF]
  | d + 1, nt, a, k + 1 => by
    have hg := capW_ge (d + 1)
    rw [condM]
    split
    · exact Nat.le_trans (leaf_len (k + 1) l _) hg
    · split
      · have ih := condM_len l d 0 (nextA l a) k
        have hw := wrapS_len (condM l d 0 (nextA l a)).1 (writeF k (condM l d 0 (nextA l a)).1)
        simp only [writeF, show ¬ (2 : Int) = 1 from by omega, if_false, if_true, List.length_append, capW]
        simp only [List.length_cons, List.length_nil]
        omega
      · have hr := nextV_range (l := l) (a := nextA l a) (n := 2) (by omega)
        have hk := kindM_cases (nextV l a 5) nt
        have hall := kidsL_all (f := condM l d (kindM (nextV l a 5) nt)) (p := fun c => ∀ k, (writeF k c).length ≤ capW d) (fun a k => condM_len l d _ a k) (2 + nextV l (nextA l a) 2).toNat [] (nextA l (nextA l a)) (fun c hc => by cases hc)
        generalize kidsL (condM l d (kindM (nextV l a 5) nt)) (2 + nextV l (nextA l a) 2).toNat [] (nextA l (nextA l a)) = r at hall ⊢
        generalize kindM (nextV l a 5) nt = kind at hk ⊢
        obtain ⟨h1, h2⟩ := hall
        simp only [List.length_nil] at h2
        have h3 : r.1.length ≤ 3 := by omega
        simp only [writeF, capW]
        rw [if_neg (by omega), if_neg (by omega)]
        have hm : r.1.length * (capW d + 2 + 5) ≤ 3 * (capW d + 7) := Nat.mul_le_mul_right _ h3
        split
        · have := between_len [32, 97, 110, 100, 32] (capW d + 2) (r.1.map fun x => wrapS x (writeF k x)) (fun x hx => by
            obtain ⟨c, hc, rfl⟩ := List.mem_map.1 hx
            have := wrapS_len c (writeF k c)
            have := h1 c hc k
            omega)
          rw [List.length_map, show ([32, 97, 110, 100, 32] : List UInt8).length = 5 from rfl] at this
          omega
        · have := between_len [32, 111, 114, 32] (capW d + 2) (r.1.map (writeF k)) (fun x hx => by
            obtain ⟨c, hc, rfl⟩ := List.mem_map.1 hx
            have := h1 c hc k
            omega)
          rw [List.length_map, show ([32, 111, 114, 32] : List UInt8).length = 4 from rfl] at this
          have hb : r.1.length * (capW d + 4) ≤ r.1.length * (capW d + 2 + 5) := Nat.mul_le_mul_left _ (by omega)
          have hm2 : r.1.length * (capW d + 2 + 4) ≤ r.1.length * (capW d + 2 + 5) := Nat.mul_le_mul_left _ (by omega)
          omega

theorem ruleM_len (l : List Int) (a : Nat) : (ruleF (ruleM l a).1).length ≤ 300 := by
  have h1 := vds_len (1 + nextV l a 3)
  unfold ruleM
  split
  · simp only [ruleF, if_true, List.length_append, List.length_nil]
    simp only [List.length_cons, List.length_nil]
    omega
  · have h2 := condM_len l 2 0 (nextA l (nextA l a)) 8
    simp only [capW] at h2
    simp only [ruleF, Bool.false_eq_true, if_false, List.length_append]
    simp only [List.length_cons, List.length_nil]
    omega
theorem polL_len (l : List Int) : ∀ (m : Nat) (acc : List Rule) (a : Nat), ((polL l m acc a).flatMap ruleF).length ≤ (acc.flatMap ruleF).length + 300 * m
  | 0, acc, a => by simp [polL]
  | m + 1, acc, a => by
    have ih := polL_len l m (acc ++ [(ruleM l a).1]) (ruleM l a).2
    have h := ruleM_len l a
    rw [polL]
    rw [List.flatMap_append, List.length_append] at ih
    simp only [List.flatMap_cons, List.flatMap_nil, List.append_nil] at ih
    omega
theorem format_len (l : List Int) : (formatF (polM l)).length ≤ 1500 := by
  have hr := nextV_range (l := l) (a := 0) (n := 5) (by omega)
  have := polL_len l (nextV l 0 5 + 1).toNat [] (nextA l 0)
  unfold formatF
  split
  · simp
  · rw [polM]
    simp only [List.flatMap_nil, List.length_nil] at this
    omega
end Tdoc
/- The words of a policy's text. -/
set_option linter.unusedVariables false
set_option linter.unusedSimpArgs false
namespace Tdoc
open Go Go.Proofs

def noLow : List UInt8 → Prop
  | [] => True
  | c :: _ => isLow c = false

/-- The words of a text. -/
inductive Lex : List UInt8 → List (List UInt8) → Prop
  | nil : Lex [] []
  | sp {c : UInt8} {r : List UInt8} {ws : List (List UInt8)} : (c = 32 ∨ c = 10) → Lex r ws → Lex (c :: r) ws
  | sg {c : UInt8} {r : List UInt8} {ws : List (List UInt8)} : ((c = 40 ∨ c = 41) ∨ c = 59) → Lex r ws → Lex (c :: r) ([c] :: ws)
  | wd {w r : List UInt8} {ws : List (List UInt8)} : w ≠ [] → (∀ c, c ∈ w → isLow c = true) → noLow r → Lex r ws → Lex (w ++ r) (w :: ws)

theorem lets_app : ∀ (w r : List UInt8), (∀ c, c ∈ w → isLow c = true) → noLow r → lets (w ++ r) = w.length
  | [], [], _, _ => rfl
  | [], c :: r, _, h => by simp only [noLow] at h; simp [lets, h]
  | c :: w, r, hw, h => by
    rw [List.cons_append, lets, if_pos (hw c (by simp)), lets_app w r (fun x hx => hw x (by simp [hx])) h]
    rfl

theorem isLow_not {c : UInt8} (h : isLow c = true) : ¬ (c = 32 ∨ c = 10) ∧ ¬ c = 35 ∧ ¬ ((c = 40 ∨ c = 41) ∨ c = 59) := by
  have hd : ∀ d : UInt8, isLow d = false → ¬ c = d := fun d hd hh => by rw [hh, hd] at h; cases h
  have h1 := hd 32 (by decide); have h2 := hd 10 (by decide); have h3 := hd 35 (by decide); have h4 := hd 40 (by decide); have h5 := hd 41 (by decide); have h6 := hd 59 (by decide)
  exact ⟨fun hh => hh.elim h1 h2, h3, fun hh => hh.elim (fun hh => hh.elim h4 h5) h6⟩

theorem Lex.words {s : List UInt8} {ws : List (List UInt8)} (h : Lex s ws) : ∀ (text : List UInt8) (p : Nat), text.drop p = s → (wf text p).1.map (·.1) = ws ∧ (wf text p).2 = -1 := by
  induction h with
  | nil => intro text p hp; rw [wf_eq, hp]; exact ⟨rfl, rfl⟩
  | @sp c r ws hc _ ih =>
    intro text p hp
    have hr : text.drop (p + 1) = r := by rw [← List.drop_drop, hp]; rfl
    rw [wf_eq, hp]
    simp only
    rw [if_pos hc]
    exact ih text (p + 1) hr
  | @sg c r ws hc _ ih =>
    intro text p hp
    have hr : text.drop (p + 1) = r := by rw [← List.drop_drop, hp]; rfl
    obtain ⟨k1, k2⟩ := ih text (p + 1) hr
    have n1 : ¬ (c = 32 ∨ c = 10) := by rcases hc with (rfl | rfl) | rfl <;> decide
    have n2 : ¬ c = 35 := by rcases hc with (rfl | rfl) | rfl <;> decide
    rw [wf_eq, hp]
    simp only
    rw [if_neg n1, if_neg n2, if_pos hc]
    exact ⟨by simp only [List.map_cons, k1], k2⟩
  | @wd w r ws hw hl hn _ ih =>
    intro text p hp
    obtain ⟨c, w', rfl⟩ : ∃ c w', w = c :: w' := by cases w with
      | nil => exact absurd rfl hw
      | cons c w' => exact ⟨c, w', rfl⟩
    obtain ⟨n1, n2, n3⟩ := isLow_not (hl c (by simp))
    have hlt := lets_app (c :: w') r hl hn
    have hr : text.drop (p + (c :: w').length) = r := by rw [← List.drop_drop, hp]; simp
    obtain ⟨k1, k2⟩ := ih text _ hr
    rw [wf_eq, hp]
    rw [List.cons_append] at hlt ⊢
    simp only
    rw [if_neg n1, if_neg n2, if_neg n3, if_pos (hl c (by simp)), hlt]
    refine ⟨?_, k2⟩
    simp only [List.map_cons, k1]
    rw [← List.cons_append, List.take_left]

/-- A piece of text, before whatever begins with no letter. -/
def LexC (s : List UInt8) (t : List (List UInt8)) : Prop := ∀ (r : List UInt8) (ws : List (List UInt8)), noLow r → Lex r ws → Lex (s ++ r) (t ++ ws)
def Letters (w : List UInt8) : Prop := w ≠ [] ∧ ∀ c, c ∈ w → isLow c = true

theorem LexC.word {w : List UInt8} (h : Letters w) : LexC w [w] := fun r ws hr hl => .wd h.1 h.2 hr hl
theorem LexC.sp {s s' : List UInt8} {t t' : List (List UInt8)} (h : LexC s t) (h' : LexC s' t') : LexC (s ++ 32 :: s') (t ++ t') := fun r ws hr hl => by
  rw [List.append_assoc, List.append_assoc, List.cons_append]
  exact h _ _ (by show isLow 32 = false; decide) (.sp (.inl rfl) (h' r ws hr hl))
theorem LexC.par {s : List UInt8} {t : List (List UInt8)} (h : LexC s t) : LexC (40 :: (s ++ [41])) (lpW :: (t ++ [rpW])) := fun r ws hr hl => by
  simp only [List.cons_append, List.append_assoc, List.nil_append]
  exact .sg (.inl (.inl rfl)) (h _ _ (by show isLow 41 = false; decide) (.sg (.inl (.inr rfl)) hl))

def betweenT (w : List UInt8) : List (List (List UInt8)) → List (List UInt8)
  | [] => []
  | [a] => a
  | a :: l => a ++ (w :: betweenT w l)

theorem LexC.between {w : List UInt8} (hw : Letters w) {α : Type} {f : α → List UInt8} {g : α → List (List UInt8)} : ∀ (l : List α), l ≠ [] → (∀ x, x ∈ l → LexC (f x) (g x)) → LexC (Tdoc.between (32 :: (w ++ [32])) (l.map f)) (betweenT w (l.map g))
  | [], h, _ => absurd rfl h
  | [a], _, h => h a (by simp)
  | a :: x :: l, _, h => by
    have ih := LexC.between hw (x :: l) (by simp) (fun y hy => h y (by simp [hy]))
    have := (h a (by simp)).sp ((LexC.word hw).sp ih)
    simp only [List.map_cons] at this ⊢
    rw [Tdoc.between, betweenT]
    · simpa using this
    · simp
    · simp

def inTok (c : Cond) (t : List (List UInt8)) : List (List UInt8) := if kindOf c = 3 ∨ kindOf c = 4 then lpW :: (t ++ [rpW]) else t
def tokF : Nat → Cond → List (List UInt8)
  | 0, _ => []
  | d + 1, .mk k c v kids =>
    if k = 1 then nameOf chk c :: (if v = 1 then [] else [isW, nameOf vls v])
    else if k = 2 then notW :: (match kids with
      | x :: _ => inTok x (tokF d x)
      | [] => [])
    else if k = 3 then betweenT andW (kids.map fun x => inTok x (tokF d x))
    else betweenT orW (kids.map (tokF d))

theorem valid_inv {d : Nat} {k c v : Int} {kids : List Cond} (h : validC (d + 1) (.mk k c v kids) = true) :
    (k = 1 ∧ (1 ≤ c ∧ c ≤ 13) ∧ (1 ≤ v ∧ v ≤ 4) ∧ kids = []) ∨ (k = 2 ∧ c = 0 ∧ v = 0 ∧ ∃ x, kids = [x] ∧ validC d x = true) ∨ ((k = 3 ∨ k = 4) ∧ c = 0 ∧ v = 0 ∧ 2 ≤ kids.length ∧ ∀ x, x ∈ kids → kindC x ≠ k ∧ validC d x = true) := by
  rw [validC] at h
  split at h
  · rename_i hk
    simp only [Bool.and_eq_true, decide_eq_true_eq] at h
    exact .inl ⟨hk, ⟨h.1.1.1.1, h.1.1.1.2⟩, ⟨h.1.1.2, h.1.2⟩, List.length_eq_zero_iff.1 h.2⟩
  · split at h
    · cases h
    · rename_i h0
      have hc : c = 0 := by omega
      have hv : v = 0 := by omega
      split at h
      · rename_i hk
        simp only [Bool.and_eq_true, decide_eq_true_eq, Bool.not_eq_true'] at h
        obtain ⟨h1, h2⟩ := h
        match kids, h1 with
        | [x], _ => exact .inr (.inl ⟨hk, hc, hv, x, rfl, by simpa using h2⟩)
      · split at h
        · rename_i hk
          simp only [Bool.and_eq_true, Bool.not_eq_true', List.any_eq_false, Bool.or_eq_false_iff, decide_eq_false_iff_not] at h
          exact .inr (.inr ⟨hk, hc, hv, by omega, fun x hx => ⟨by simpa using h.1.2 x hx, by simpa using h.2 x hx⟩⟩)
        · cases h

theorem kind_same (c : Cond) : kindOf c = kindC c := by cases c; rfl

theorem name_at {l : List (List UInt8)} {n : Int} (h : 1 ≤ n ∧ n ≤ l.length) : nameOf l n ∈ l := by
  unfold nameOf
  rw [if_neg (by omega)]
  have hlt : (n - 1).toNat < l.length := by omega
  rw [List.getElem?_eq_getElem hlt, Option.getD_some]
  exact List.getElem_mem hlt
theorem letters_of {w : List UInt8} (h : (decide (w ≠ []) && w.all isLow) = true) : Letters w := by
  simp only [Bool.and_eq_true, decide_eq_true_eq, List.all_eq_true] at h
  exact h
theorem chk_all : ∀ w, w ∈ chk → (decide (w ≠ []) && w.all isLow) = true := by decide
theorem vls_all : ∀ w, w ∈ vls → (decide (w ≠ []) && w.all isLow) = true := by decide
theorem vds_all : ∀ w, w ∈ vds → (decide (w ≠ []) && w.all isLow) = true := by decide
theorem chk_let {c : Int} (h : 1 ≤ c ∧ c ≤ 13) : Letters (nameOf chk c) := letters_of (chk_all _ (name_at ⟨h.1, h.2⟩))
theorem vls_let {c : Int} (h : 1 ≤ c ∧ c ≤ 4) : Letters (nameOf vls c) := letters_of (vls_all _ (name_at ⟨h.1, h.2⟩))
theorem vds_let {c : Int} (h : 1 ≤ c ∧ c ≤ 3) : Letters (nameOf vds c) := letters_of (vds_all _ (name_at ⟨h.1, h.2⟩))

theorem wrap_lex {c : Cond} {s : List UInt8} {t : List (List UInt8)} (h : LexC s t) : LexC (wrapS c s) (inTok c t) := by
  unfold wrapS inTok
  split
  · exact h.par
  · exact h

theorem write_lex : ∀ (d : Nat) (c : Cond), validC d c = true → LexC (writeF d c) (tokF d c)
  | 0, c, h => by simp [validC] at h
  | d + 1, .mk k c v kids, h => by
    rw [writeF.eq_def, tokF.eq_def]
    simp only
    rcases valid_inv h with ⟨rfl, h1, h2, rfl⟩ | ⟨rfl, -, -, x, rfl, hx⟩ | ⟨hk, -, -, hl, hx⟩
    · rw [if_pos rfl, if_pos rfl]
      split
      · rw [List.append_nil]; exact LexC.word (chk_let h1)
      · exact (LexC.word (chk_let h1)).sp ((LexC.word (w := isW) (letters_of (by decide))).sp (LexC.word (vls_let h2)))
    · rw [if_neg (by omega), if_pos rfl, if_neg (by omega), if_pos rfl]
      exact (LexC.word (w := notW) (letters_of (by decide))).sp (wrap_lex (write_lex d x hx))
    · have hne : kids ≠ [] := by intro hh; rw [hh] at hl; simp at hl
      rcases hk with rfl | rfl
      · simp only [show ¬ (3 : Int) = 1 from by omega, show ¬ (3 : Int) = 2 from by omega, if_false, if_true]
        exact LexC.between (w := andW) (letters_of (by decide)) kids hne (fun x hxm => wrap_lex (write_lex d x (hx x hxm).2))
      · simp only [show ¬ (4 : Int) = 1 from by omega, show ¬ (4 : Int) = 2 from by omega, show ¬ (4 : Int) = 3 from by omega, if_false]
        exact LexC.between (w := orW) (letters_of (by decide)) kids hne (fun x hxm => write_lex d x (hx x hxm).2)

def tokR : Rule → List (List UInt8)
  | .mk v al c => nameOf vds v :: ((if al = true then [] else ifW :: tokF 8 c) ++ [scW])

theorem rule_lex : ∀ (r : Rule), ruleErr r = 0 → ∀ (s : List UInt8) (ws : List (List UInt8)), Lex s ws → Lex (ruleF r ++ s) (tokR r ++ ws)
  | .mk v al (.mk k c w kids), he, s, ws, hs => by
    unfold ruleErr at he
    simp only at he
    by_cases hv : v < 1 ∨ v > 3
    · rw [if_pos hv] at he; exact absurd he (by decide)
    · rw [if_neg hv] at he
      have hvd := vds_let (c := v) (by omega)
      have hend : Lex (59 :: 10 :: s) (scW :: ws) := .sg (.inr rfl) (.sp (.inr rfl) hs)
      cases al with
      | true =>
        have := LexC.word hvd _ _ (by show isLow 59 = false; decide) hend
        simpa [ruleF, tokR, List.append_assoc] using this
      | false =>
        simp only [Bool.false_eq_true, false_and, if_false, true_and] at he
        have hval : validC 8 (.mk k c w kids) = true := by
          by_cases h1 : validC 8 (.mk k c w kids) = false
          · rw [if_pos h1] at he; exact absurd he (by decide)
          · simpa using h1
        have := ((LexC.word hvd).sp ((LexC.word (w := ifW) (letters_of (by decide))).sp (write_lex 8 _ hval))) _ _ (by show isLow 59 = false; decide) hend
        simpa [ruleF, tokR, ifW, List.append_assoc] using this

theorem rules_lex : ∀ (rs : List Rule), firstErr rs = 0 → Lex (rs.flatMap ruleF) (rs.flatMap tokR)
  | [], _ => .nil
  | r :: rs, h => by
    rw [firstErr] at h
    by_cases h0 : ruleErr r = 0
    · rw [if_pos h0] at h
      rw [List.flatMap_cons, List.flatMap_cons]
      exact rule_lex r h0 _ _ (rules_lex rs h)
    · rw [if_neg h0] at h; exact absurd h h0
end Tdoc
/- The parser of a policy's own words. -/
set_option linter.unusedVariables false
set_option linter.unusedSimpArgs false
namespace Tdoc
open Go Go.Proofs

def DW (ws : List Wd) (s : RS) : List (List UInt8) := (ws.map (·.1)).drop s.i
def St (s : RS) (k : Nat) : RS := ⟨s.i + k, s.en, s.bad⟩
theorem St_zero (s : RS) : St s 0 = s := by cases s; simp [St]
theorem St_St (s : RS) (a b : Nat) : St (St s a) b = St s (a + b) := by simp [St]; omega
theorem inc_St (s : RS) : s.inc = St s 1 := rfl
theorem DW_St {ws : List Wd} {s : RS} {t rest : List (List UInt8)} (h : DW ws s = t ++ rest) : DW ws (St s t.length) = rest := by
  unfold DW at h ⊢
  show (ws.map (·.1)).drop (s.i + t.length) = rest
  rw [← List.drop_drop, h, List.drop_left]
theorem DW_inc {ws : List Wd} {s : RS} {x : List UInt8} {rest : List (List UInt8)} (h : DW ws s = x :: rest) : DW ws (St s 1) = rest := DW_St (t := [x]) h
theorem peek_DW (ws : List Wd) (s : RS) : peekR ws s = (DW ws s).headD [] := by
  unfold peekR DW
  rw [List.headD_eq_head?_getD, List.head?_drop, List.getElem?_map]
  cases ws[s.i]? <;> rfl
theorem DW_len (ws : List Wd) (s : RS) : (DW ws s).length ≤ ws.length := by unfold DW; simp

def PartAt (ws : List Wd) (ok : List UInt8 → Prop) (part : RS → Cond × RS) (x : Cond) (t : List (List UInt8)) : Prop :=
  ∀ (s : RS) (rest : List (List UInt8)), s.bad < 0 → DW ws s = t ++ rest → ok (rest.headD []) → part s = (x, St s t.length)

theorem loop_at {ws : List Wd} {ok : List UInt8 → Prop} {part : RS → Cond × RS} {w : List UInt8} {g : Cond → List (List UInt8)} (hw : ok w) : ∀ (kids : List Cond) (m : Nat) (acc : List Cond) (s : RS) (rest : List (List UInt8)), s.bad < 0 → (∀ x, x ∈ kids → PartAt ws ok part x (g x)) →
    DW ws s = (kids.flatMap fun x => w :: g x) ++ rest → rest.headD [] ≠ w → ok (rest.headD []) → kids.length ≤ m → loopR ws w part m acc s = (acc ++ kids, St s (kids.flatMap fun x => w :: g x).length)
  | [], m, acc, s, rest, hb, hp, hd, hr, hk, hm => by
    have hpk : ¬ (s.bad < 0 ∧ peekR ws s = w) := by rw [peek_DW, hd]; exact fun h => hr h.2
    cases m with
    | zero => simp [loopR, St_zero]
    | succ m => rw [loopR, if_neg hpk]; simp [St_zero]
  | x :: kids, 0, acc, s, rest, hb, hp, hd, hr, hk, hm => by simp at hm
  | x :: kids, m + 1, acc, s, rest, hb, hp, hd, hr, hk, hm => by
    have hd1 : DW ws s = w :: (g x ++ ((kids.flatMap fun x => w :: g x) ++ rest)) := by rw [hd]; simp
    have hpk : s.bad < 0 ∧ peekR ws s = w := ⟨hb, by rw [peek_DW, hd1]; rfl⟩
    have hd2 := DW_inc hd1
    have hok : ok (((kids.flatMap fun x => w :: g x) ++ rest).headD []) := by
      cases kids with
      | nil => exact hk
      | cons y l => exact hw
    have h1 := hp x (by simp) (St s 1) _ hb hd2 hok
    have hd3 := DW_St hd2
    rw [loopR, if_pos hpk, inc_St, h1]
    simp only
    rw [loop_at hw kids m (acc ++ [x]) (St (St s 1) (g x).length) rest hb (fun y hy => hp y (by simp [hy])) hd3 hr hk (by simp at hm; omega), St_St, St_St]
    simp only [List.append_assoc, List.cons_append, List.nil_append, List.flatMap_cons, List.length_append, List.length_cons]
    rw [show 1 + ((g x).length + (kids.flatMap fun x => w :: g x).length) = (g x).length + (kids.flatMap fun x => w :: g x).length + 1 by omega]

theorem betweenT_cons (w : List UInt8) (g : Cond → List (List UInt8)) : ∀ (x : Cond) (l : List Cond), betweenT w ((x :: l).map g) = g x ++ l.flatMap fun y => w :: g y
  | x, [] => by simp [betweenT]
  | x, y :: l => by
    have := betweenT_cons w g y l
    simp only [List.map_cons] at this ⊢
    rw [betweenT, this]
    · simp
    · simp

theorem flatL_id {kind : Int} : ∀ (l : List Cond), (∀ x, x ∈ l → kindC x ≠ kind) → flatL kind l = l
  | [], _ => rfl
  | x :: l, h => by
    have hx := h x (by simp)
    obtain ⟨k, c, v, kids⟩ := x
    have ih := flatL_id l (fun y hy => h y (by simp [hy]))
    unfold flatL at ih ⊢
    rw [List.flatMap_cons, ih, flatC, if_neg (show ¬ k = kind from hx)]
    rfl

theorem series_one {ws : List Wd} {ok : List UInt8 → Prop} {part : RS → Cond × RS} {w : List UInt8} {kind : Int} {x : Cond} {t : List (List UInt8)} (hp : PartAt ws ok part x t) : PartAt ws (fun r => ok r ∧ r ≠ w) (seriesR ws kind w part) x t := by
  intro s rest hb hd ho
  have h1 := hp s rest hb hd ho.1
  have hd2 := DW_St hd
  have hpk : ¬ ((St s t.length).bad < 0 ∧ peekR ws (St s t.length) = w) := by rw [peek_DW, hd2]; exact fun h => ho.2 h.2
  unfold seriesR
  rw [h1]
  simp only
  rw [loopR, if_neg hpk]
  rfl

theorem series_many {ws : List Wd} {ok : List UInt8 → Prop} {part : RS → Cond × RS} {w : List UInt8} {kind : Int} {g : Cond → List (List UInt8)} (hw : ok w) {kids : List Cond} (hl : 2 ≤ kids.length) (hk : ∀ x, x ∈ kids → kindC x ≠ kind) (hp : ∀ x, x ∈ kids → PartAt ws ok part x (g x)) :
    PartAt ws (fun r => ok r ∧ r ≠ w) (seriesR ws kind w part) (.mk kind 0 0 kids) (betweenT w (kids.map g)) := by
  intro s rest hb hd ho
  match kids, hl with
  | x :: y :: l, _ =>
    rw [betweenT_cons, List.append_assoc] at hd
    have h1 := hp x (by simp) s _ hb hd (by exact hw)
    have hd2 := DW_St hd
    have hlen : (y :: l).length ≤ ws.length + 1 := by
      have h2 := DW_len ws (St s (g x).length)
      rw [hd2, List.length_append] at h2
      have h3 : ∀ (l : List Cond), l.length ≤ (l.flatMap fun y => w :: g y).length := by
        intro l
        induction l with
        | nil => simp
        | cons a l ih => simp only [List.flatMap_cons, List.length_append, List.length_cons]; omega
      have := h3 (y :: l)
      omega
    have h2 := loop_at hw (y :: l) (ws.length + 1) [x] (St s (g x).length) rest hb (fun z hz => hp z (by simp at hz ⊢; exact .inr hz)) hd2 ho.2 ho.1 hlen
    unfold seriesR
    rw [h1]
    simp only
    rw [h2, St_St, betweenT_cons, List.length_append]
    show (Cond.mk kind 0 0 (flatL kind (x :: y :: l)), _) = _
    rw [flatL_id (x :: y :: l) hk]

/-! one atom -/
def nameOk (k : Nat) : Bool := decide (sIdx chk (nameOf chk ((k + 1 : Nat) : Int)) + 1 = ((k + 1 : Nat) : Int)) && decide (nameOf chk ((k + 1 : Nat) : Int) ≠ notW) && decide (nameOf chk ((k + 1 : Nat) : Int) ≠ lpW)
theorem name_all : (List.range 13).all nameOk = true := by decide +kernel
theorem name_back {c : Int} (h : 1 ≤ c ∧ c ≤ 13) : sIdx chk (nameOf chk c) + 1 = c ∧ nameOf chk c ≠ notW ∧ nameOf chk c ≠ lpW := by
  have := List.all_eq_true.1 name_all (c - 1).toNat (List.mem_range.2 (by omega))
  unfold nameOk at this
  rw [show (((c - 1).toNat + 1 : Nat) : Int) = c by omega] at this
  simp only [Bool.and_eq_true, decide_eq_true_eq] at this
  exact ⟨this.1.1, this.1.2, this.2⟩
def valueOk (k : Nat) : Bool := decide (sIdx vls (nameOf vls ((k + 1 : Nat) : Int)) + 1 = ((k + 1 : Nat) : Int))
theorem value_all : (List.range 4).all valueOk = true := by decide +kernel
theorem value_back {c : Int} (h : 1 ≤ c ∧ c ≤ 4) : sIdx vls (nameOf vls c) + 1 = c := by
  have := List.all_eq_true.1 value_all (c - 1).toNat (List.mem_range.2 (by omega))
  unfold valueOk at this
  rw [show (((c - 1).toNat + 1 : Nat) : Int) = c by omega] at this
  exact of_decide_eq_true this
def verdOk (k : Nat) : Bool := decide (sIdx vds (nameOf vds ((k + 1 : Nat) : Int)) + 1 = ((k + 1 : Nat) : Int))
theorem verd_all : (List.range 3).all verdOk = true := by decide +kernel
theorem verd_back {c : Int} (h : 1 ≤ c ∧ c ≤ 3) : sIdx vds (nameOf vds c) + 1 = c := by
  have := List.all_eq_true.1 verd_all (c - 1).toNat (List.mem_range.2 (by omega))
  unfold verdOk at this
  rw [show (((c - 1).toNat + 1 : Nat) : Int) = c by omega] at this
  exact of_decide_eq_true this

def okA (r : List UInt8) : Prop := r ≠ isW
def okJ (r : List UInt8) : Prop := okA r ∧ r ≠ andW
def okC (r : List UInt8) : Prop := okJ r ∧ r ≠ orW

theorem and_is : okA andW := fun h => absurd h (by decide)
theorem or_is : okA orW := fun h => absurd h (by decide)
theorem or_and : orW ≠ andW := by decide
theorem rp_is : okA rpW := fun h => absurd h (by decide)
theorem rp_and : rpW ≠ andW := by decide
theorem rp_or : rpW ≠ orW := by decide

theorem leaf_at (ws : List Wd) {c v : Int} (hc : 1 ≤ c ∧ c ≤ 13) (hv : 1 ≤ v ∧ v ≤ 4) (n : Nat) (hn : 1 ≤ n) : PartAt ws okA (atomR ws n) (.mk 1 c v []) (nameOf chk c :: (if v = 1 then [] else [isW, nameOf vls v])) := by
  intro s rest hb hd ho
  obtain ⟨n, rfl⟩ : ∃ m, n = m + 1 := ⟨n - 1, by omega⟩
  obtain ⟨b1, b2, b3⟩ := name_back hc
  have hp0 : peekR ws s = nameOf chk c := by rw [peek_DW, hd]; rfl
  rw [atomR, if_neg (by omega), hp0, if_neg b2, if_neg b3, b1, if_neg (by omega)]
  by_cases h1 : v = 1
  · subst h1
    have hd1 := DW_inc (x := nameOf chk c) (rest := rest) (by simpa using hd)
    have hp1 : peekR ws s.inc ≠ isW := by rw [peek_DW, inc_St, hd1]; exact ho
    rw [if_neg hp1]
    rfl
  · rw [if_neg h1] at hd
    have hd1 : DW ws (St s 1) = isW :: nameOf vls v :: rest := DW_inc (x := nameOf chk c) (by simpa using hd)
    have hd2 : DW ws (St (St s 1) 1) = nameOf vls v :: rest := DW_inc hd1
    have hp1 : peekR ws s.inc = isW := by rw [peek_DW, inc_St, hd1]; rfl
    have hp2 : peekR ws s.inc.inc = nameOf vls v := by rw [peek_DW, inc_St, inc_St, hd2]; rfl
    have hv1 := value_back hv
    rw [if_pos hp1, hp2, hv1, if_neg (show ¬ v = 0 by omega), if_neg h1]
    rfl

theorem tokF_pos : ∀ (d : Nat) (c : Cond), validC d c = true → 1 ≤ (tokF d c).length
  | 0, c, h => by simp [validC] at h
  | d + 1, .mk k c v kids, h => by
    rw [tokF.eq_def]
    simp only
    rcases valid_inv h with ⟨rfl, h1, h2, rfl⟩ | ⟨rfl, -, -, x, rfl, hx⟩ | ⟨hk, -, -, hl, hx⟩
    · simp
    · simp
    · match kids, hl with
      | x :: y :: l, _ =>
        rcases hk with rfl | rfl
        · simp only [show ¬ (3 : Int) = 1 from by omega, show ¬ (3 : Int) = 2 from by omega, if_false, if_true]
          rw [betweenT_cons andW (fun x => inTok x (tokF d x))]
          simp; omega
        · simp only [show ¬ (4 : Int) = 1 from by omega, show ¬ (4 : Int) = 2 from by omega, show ¬ (4 : Int) = 3 from by omega, if_false]
          rw [betweenT_cons]
          simp; omega

theorem member_len (w : List UInt8) (g : Cond → List (List UInt8)) {kids : List Cond} {x : Cond} (hx : x ∈ kids) : (g x).length ≤ (betweenT w (kids.map g)).length := by
  cases kids with
  | nil => cases hx
  | cons a l =>
    rw [betweenT_cons, List.length_append]
    rcases List.mem_cons.1 hx with rfl | hx
    · omega
    · have : (g x).length ≤ (l.flatMap fun y => w :: g y).length := by
        induction l with
        | nil => cases hx
        | cons b l ih =>
          rw [List.flatMap_cons, List.length_append, List.length_cons]
          rcases List.mem_cons.1 hx with rfl | hx
          · omega
          · have := ih (by simp [hx]) hx; omega
      omega

/-- Everything that a valid condition's words are parsed as. -/
theorem cond_at (ws : List Wd) : ∀ (d : Nat) (c : Cond), validC d c = true → ∀ (n : Nat),
    ((inTok c (tokF d c)).length ≤ n → PartAt ws okA (atomR ws n) c (inTok c (tokF d c))) ∧
    ((tokF d c).length ≤ n → kindC c ≠ 4 → PartAt ws okJ (seriesR ws 3 andW (atomR ws n)) c (tokF d c)) ∧
    ((tokF d c).length ≤ n → PartAt ws okC (seriesR ws 4 orW (seriesR ws 3 andW (atomR ws n))) c (tokF d c))
  | 0, c, h, n => by simp [validC] at h
  | d + 1, .mk k c v kids, h, n => by
    have hpos := tokF_pos (d + 1) _ h
    -- the conjunction, at every depth of the atoms
    have hJ : ∀ m, (tokF (d + 1) (.mk k c v kids)).length ≤ m → k ≠ 4 → PartAt ws okJ (seriesR ws 3 andW (atomR ws m)) (.mk k c v kids) (tokF (d + 1) (.mk k c v kids)) ∧ (k ≠ 3 → PartAt ws okA (atomR ws m) (.mk k c v kids) (tokF (d + 1) (.mk k c v kids))) := by
      intro m hm hk4
      rw [tokF.eq_def] at hm hpos ⊢
      simp only at hm hpos ⊢
      rcases valid_inv h with ⟨rfl, h1, h2, rfl⟩ | ⟨rfl, rfl, rfl, x, rfl, hx⟩ | ⟨hk, rfl, rfl, hl, hx⟩
      · rw [if_pos rfl] at hm hpos ⊢
        have := leaf_at ws h1 h2 m (by omega)
        exact ⟨series_one this, fun _ => this⟩
      · simp only [show ¬ (2 : Int) = 1 from by omega, if_false, if_true, List.length_cons] at hm ⊢
        have hA : PartAt ws okA (atomR ws m) (.mk 2 0 0 [x]) (notW :: inTok x (tokF d x)) := by
          intro s rest hb hd ho
          obtain ⟨m, rfl⟩ : ∃ m', m = m' + 1 := ⟨m - 1, by omega⟩
          have hp0 : peekR ws s = notW := by rw [peek_DW, hd]; rfl
          have hd1 := DW_inc (x := notW) (rest := inTok x (tokF d x) ++ rest) (by simpa using hd)
          have := (cond_at ws d x hx m).1 (by omega) (St s 1) rest hb hd1 ho
          rw [atomR, if_neg (by omega), hp0, if_pos rfl, inc_St, this]
          simp only [St_St, List.length_cons]
          rw [show 1 + (inTok x (tokF d x)).length = (inTok x (tokF d x)).length + 1 by omega]
        exact ⟨series_one hA, fun _ => hA⟩
      · obtain rfl : k = 3 := by omega
        simp only [show ¬ (3 : Int) = 1 from by omega, show ¬ (3 : Int) = 2 from by omega, if_false, if_true] at hm ⊢
        refine ⟨series_many (ok := okA) (g := fun x => inTok x (tokF d x)) and_is hl (fun x hxm => (hx x hxm).1) (fun x hxm => (cond_at ws d x (hx x hxm).2 m).1 ?_), fun hh => absurd rfl hh⟩
        exact Nat.le_trans (member_len andW (fun x => inTok x (tokF d x)) hxm) hm
    have hC : ∀ m, (tokF (d + 1) (.mk k c v kids)).length ≤ m → PartAt ws okC (seriesR ws 4 orW (seriesR ws 3 andW (atomR ws m))) (.mk k c v kids) (tokF (d + 1) (.mk k c v kids)) := by
      intro m hm
      by_cases hk4 : k = 4
      · subst hk4
        rcases valid_inv h with ⟨hk, -⟩ | ⟨hk, -⟩ | ⟨-, rfl, rfl, hl, hx⟩
        · omega
        · omega
        · rw [tokF.eq_def] at hm ⊢
          simp only [show ¬ (4 : Int) = 1 from by omega, show ¬ (4 : Int) = 2 from by omega, show ¬ (4 : Int) = 3 from by omega, if_false] at hm ⊢
          exact series_many (ok := okJ) (g := tokF d) ⟨or_is, or_and⟩ hl (fun x hxm => (hx x hxm).1) (fun x hxm => (cond_at ws d x (hx x hxm).2 m).2.1 (Nat.le_trans (member_len orW (tokF d) hxm) hm) (hx x hxm).1)
      · exact series_one (hJ m hm hk4).1
    refine ⟨fun hn => ?_, fun hn hk => (hJ n hn hk).1, fun hn => hC n hn⟩
    unfold inTok at hn ⊢
    by_cases hp : kindOf (.mk k c v kids) = 3 ∨ kindOf (.mk k c v kids) = 4
    · rw [if_pos hp] at hn ⊢
      simp only [List.length_cons, List.length_append, List.length_nil] at hn
      intro s rest hb hd ho
      obtain ⟨n, rfl⟩ : ∃ m', n = m' + 1 := ⟨n - 1, by omega⟩
      have hp0 : peekR ws s = lpW := by rw [peek_DW, hd]; rfl
      have hd1 := DW_inc (x := lpW) (rest := tokF (d + 1) (.mk k c v kids) ++ (rpW :: rest)) (by rw [hd]; simp)
      have h1 := hC n (by omega) (St s 1) _ hb hd1 (by exact ⟨⟨rp_is, rp_and⟩, rp_or⟩)
      have hd2 := DW_St hd1
      rw [atomR, if_neg (by omega), hp0, if_neg (by decide), if_pos rfl, inc_St, h1]
      simp only
      unfold takeR
      rw [if_neg (by rw [peek_DW, hd2]; exact fun hh => hh.2 rfl)]
      simp only [St, List.length_cons, List.length_append, List.length_nil]
      rw [show s.i + 1 + (tokF (d + 1) (.mk k c v kids)).length + 1 = s.i + ((tokF (d + 1) (.mk k c v kids)).length + (0 + 1) + 1) by omega]
    · rw [if_neg hp] at hn ⊢
      simp only [kindOf] at hp
      exact (hJ n hn (fun h => hp (.inr h))).2 (fun h => hp (.inl h))
end Tdoc
/- A policy is parsed from its own text. -/
set_option linter.unusedVariables false
set_option linter.unusedSimpArgs false
namespace Tdoc
open Go Go.Proofs

theorem ruleErr_inv {v : Int} {al : Bool} {k c w : Int} {kids : List Cond} (h : ruleErr (.mk v al (.mk k c w kids)) = 0) :
    (1 ≤ v ∧ v ≤ 3) ∧ (al = true → k = 0 ∧ c = 0 ∧ w = 0 ∧ kids = []) ∧ (al = false → validC 8 (.mk k c w kids) = true) := by
  unfold ruleErr at h
  simp only at h
  by_cases hv : v < 1 ∨ v > 3
  · rw [if_pos hv] at h; exact absurd h (by decide)
  · rw [if_neg hv] at h
    refine ⟨by omega, fun ha => ?_, fun ha => ?_⟩
    · subst ha
      by_cases h1 : k ≠ 0 ∨ c ≠ 0 ∨ w ≠ 0 ∨ 0 < kids.length
      · rw [if_pos ⟨rfl, h1⟩] at h; exact absurd h (by decide)
      · exact ⟨by omega, by omega, by omega, List.length_eq_zero_iff.1 (by omega)⟩
    · subst ha
      by_cases h1 : validC 8 (.mk k c w kids) = false
      · simp [h1] at h
      · simpa using h1

theorem sc_if : scW ≠ ifW := by decide
theorem sc_is : okA scW := fun h => absurd h (by decide)
theorem sc_and : scW ≠ andW := by decide
theorem sc_or : scW ≠ orW := by decide

theorem take_at {ws : List Wd} {s : RS} {w : List UInt8} {rest : List (List UInt8)} (hd : DW ws s = w :: rest) : takeR ws s w = St s 1 := by
  unfold takeR
  rw [if_neg (by rw [peek_DW, hd]; exact fun hh => hh.2 rfl)]
  rfl

theorem rule_at (ws : List Wd) : ∀ (r : Rule), ruleErr r = 0 → ∀ (s : RS) (rest : List (List UInt8)), s.bad < 0 → DW ws s = tokR r ++ rest → (ruleR ws s = (r, St s (tokR r).length) ∧ sIdx vds (peekR ws s) + 1 ≠ 0)
  | .mk v al (.mk k c w kids), he, s, rest, hb, hd => by
    obtain ⟨hv, ht, hf⟩ := ruleErr_inv he
    have hvb := verd_back hv
    cases al with
    | true =>
      obtain ⟨rfl, rfl, rfl, rfl⟩ := ht rfl
      have hd0 : DW ws s = nameOf vds v :: scW :: rest := by simpa [tokR] using hd
      have hp0 : peekR ws s = nameOf vds v := by rw [peek_DW, hd0]; rfl
      have hd1 := DW_inc hd0
      have hp1 : peekR ws s.inc ≠ ifW := by rw [peek_DW, inc_St, hd1]; exact sc_if
      rw [hp0, hvb]
      refine ⟨?_, by omega⟩
      unfold ruleR
      rw [if_neg hp1, hp0, hvb, inc_St, take_at hd1, St_St]
      rfl
    | false =>
      have hval := hf rfl
      have hd0 : DW ws s = nameOf vds v :: ifW :: (tokF 8 (.mk k c w kids) ++ (scW :: rest)) := by simpa [tokR, List.append_assoc] using hd
      have hp0 : peekR ws s = nameOf vds v := by rw [peek_DW, hd0]; rfl
      have hd1 := DW_inc hd0
      have hp1 : peekR ws s.inc = ifW := by rw [peek_DW, inc_St, hd1]; rfl
      have hd2 := DW_inc hd1
      have hlen : (tokF 8 (.mk k c w kids)).length ≤ ws.length + 1 := by
        have := DW_len ws (St (St s 1) 1)
        rw [hd2, List.length_append] at this
        omega
      have hc := (cond_at ws 8 _ hval (ws.length + 1)).2.2 hlen (St (St s 1) 1) _ hb hd2 (by exact ⟨⟨sc_is, sc_and⟩, sc_or⟩)
      have hd3 := DW_St hd2
      rw [hp0, hvb]
      refine ⟨?_, by omega⟩
      unfold ruleR condR' conjR
      rw [if_pos hp1, hp0, hvb, inc_St, inc_St, hc]
      simp only
      rw [take_at hd3, St_St, St_St, St_St]
      simp only [tokR, Bool.false_eq_true, if_false, List.length_cons, List.length_append, List.length_nil]
      rw [show 1 + (1 + ((tokF 8 (.mk k c w kids)).length + 1)) = (tokF 8 (.mk k c w kids)).length + 1 + (0 + 1) + 1 by omega]

theorem rules_at (ws : List Wd) : ∀ (rs : List Rule) (m : Nat) (acc : List Rule) (s : RS), (∀ r, r ∈ rs → ruleErr r = 0) → s.bad < 0 → DW ws s = rs.flatMap tokR → rs.length ≤ m → rulesR ws m acc s = (acc ++ rs, St s (rs.flatMap tokR).length)
  | [], m, acc, s, he, hb, hd, hm => by
    have hi : ¬ (s.bad < 0 ∧ s.i < ws.length) := by
      intro hh
      have : (DW ws s).length = ws.length - s.i := by unfold DW; simp
      rw [hd] at this
      simp at this
      omega
    cases m with
    | zero => simp [rulesR, St_zero]
    | succ m => rw [rulesR, if_neg hi]; simp [St_zero]
  | r :: rs, 0, acc, s, he, hb, hd, hm => by simp at hm
  | r :: rs, m + 1, acc, s, he, hb, hd, hm => by
    rw [List.flatMap_cons] at hd
    obtain ⟨h1, h2⟩ := rule_at ws r (he r (by simp)) s _ hb hd
    have hi : s.bad < 0 ∧ s.i < ws.length := by
      refine ⟨hb, ?_⟩
      have hl : (DW ws s).length = ws.length - s.i := by unfold DW; simp
      rw [hd] at hl
      have : 0 < (tokR r).length := by cases r; simp [tokR]
      rw [List.length_append] at hl
      omega
    rw [rulesR, if_pos hi, if_neg h2, h1]
    simp only
    rw [rules_at ws rs m (acc ++ [r]) (St s (tokR r).length) (fun x hx => he x (by simp [hx])) hb (DW_St hd) (by simp at hm; omega), St_St]
    simp [List.length_append]

theorem back_parse (rs : List Rule) (hv : validPol rs = 0) (hl : (formatF rs).length ≤ 4096) : parseP (formatF rs) = (rs, 0, 0) := by
  rw [parsers_agree _ (by omega)]
  have hz : rs.length ≤ 32 ∧ firstErr rs = 0 := by
    unfold validPol at hv
    split at hv
    · cases hv
    · exact ⟨by omega, hv⟩
  have hf : formatF rs = rs.flatMap ruleF := by unfold formatF; rw [if_neg (by omega)]
  have herr : ∀ (l : List Rule), firstErr l = 0 → ∀ r, r ∈ l → ruleErr r = 0 := by
    intro l
    induction l with
    | nil => intro _ r hr; cases hr
    | cons a l ih =>
      intro h r hr
      rw [firstErr] at h
      by_cases h0 : ruleErr a = 0
      · rw [if_pos h0] at h
        rcases List.mem_cons.1 hr with rfl | hr
        · exact h0
        · exact ih h r hr
      · rw [if_neg h0] at h; exact absurd h h0
  have hlex := (rules_lex rs hz.2).words (rs.flatMap ruleF) 0 rfl
  rw [← hf] at hlex
  generalize formatF rs = text at *
  obtain ⟨h1, h2⟩ := hlex
  generalize hw : wf text 0 = wb at *
  obtain ⟨ws, bro⟩ := wb
  simp only at h1 h2
  subst h2
  have htl : rs.length ≤ (rs.flatMap tokR).length := by
    have h3 : ∀ (l : List Rule), l.length ≤ (l.flatMap tokR).length := by
      intro l
      induction l with
      | nil => simp
      | cons a l ih =>
        have : 0 < (tokR a).length := by cases a; simp [tokR]
        simp only [List.flatMap_cons, List.length_append, List.length_cons]; omega
    exact h3 rs
  have hwl : (rs.flatMap tokR).length = ws.length := by rw [← h1]; simp
  have hq : parseQR text (ws, -1) = (rs, St ⟨0, endR text (-1), -1⟩ (rs.flatMap tokR).length) := by
    unfold parseQR
    have := rules_at ws rs (ws.length + 1) [] ⟨0, endR text (-1), -1⟩ (herr rs hz.2) (show (-1 : Int) < 0 by decide) (by unfold DW; simpa using h1) (by omega)
    simpa using this
  have hb : badR (ws, -1) (St ⟨0, endR text (-1), -1⟩ (rs.flatMap tokR).length) = -1 := by unfold badR; simp [St]
  have hw0 : wordsR text (text.length + 1) 0 [] = (ws, -1) := hw
  unfold parseR
  rw [if_neg (by omega), hw0, hq, hb, if_neg (by omega), if_neg (show ¬ validPol rs ≠ 0 by omega)]
end Tdoc
/- Plain: what is certain about a condition stays so with further results, and with all results it is certain. -/
set_option linter.unusedVariables false
set_option linter.unusedSimpArgs false
namespace Tdoc
open Go Go.Proofs

def SubR (s t : List Res) : Prop := ∀ ch v, valOf ch s = some v → valOf ch t = some v
def FullR (t : List Res) : Prop := ∀ ch, 1 ≤ ch → ch ≤ 13 → ∃ v, valOf ch t = some v

theorem foldF_eq {one : Int} (h1 : one ≠ 0) : ∀ (r : List Int) (all : Int), foldF one all r = if one ∈ r then one else if 0 ∈ r then 0 else all
  | [], all => by simp [foldF]
  | f :: r, all => by
    rw [foldF]
    by_cases hf : f = one
    · simp [hf]
    · rw [if_neg hf, foldF_eq h1 r]
      have h2 : one ≠ f := fun h => hf h.symm
      by_cases hr : one ∈ r
      · simp [hr]
      · simp only [hr, if_false, List.mem_cons, h2, or_false]
        by_cases h0 : (0 : Int) ∈ r
        · simp [h0]
        · simp only [h0, if_false, or_false]
          by_cases hf0 : f = 0
          · simp [hf0]
          · rw [if_neg hf0, if_neg (fun h => hf0 h.symm)]

theorem validC_inv {d : Nat} {k c v : Int} {kids : List Cond} (h : validC (d + 1) (.mk k c v kids) = true) :
    (k = 1 ∧ 1 ≤ c ∧ c ≤ 13) ∨ (k = 2 ∧ ∃ x, kids = [x] ∧ validC d x = true) ∨ ((k = 3 ∨ k = 4) ∧ ∀ x, x ∈ kids → validC d x = true) := by
  rw [validC] at h
  split at h
  · rename_i hk
    simp only [Bool.and_eq_true, decide_eq_true_eq] at h
    exact .inl ⟨hk, h.1.1.1.1, h.1.1.1.2⟩
  · split at h
    · cases h
    · split at h
      · rename_i hk
        simp only [Bool.and_eq_true, decide_eq_true_eq, Bool.not_eq_true'] at h
        obtain ⟨h1, h2⟩ := h
        match kids, h1 with
        | [x], _ => exact .inr (.inl ⟨hk, x, rfl, by simpa using h2⟩)
      · split at h
        · rename_i hk
          simp only [Bool.and_eq_true, Bool.not_eq_true', List.any_eq_false] at h
          exact .inr (.inr ⟨hk, fun x hx => by simpa using h.2 x hx⟩)
        · cases h

theorem validC_mono : ∀ (d : Nat) (c : Cond), validC d c = true → validC (d + 1) c = true
  | 0, c, h => by simp [validC] at h
  | d + 1, .mk k c v kids, h => by
    have hany : ∀ (hk : (kids.any fun x => !validC d x) = false), (kids.any fun x => !validC (d + 1) x) = false := by
      intro hk
      rw [List.any_eq_false] at hk ⊢
      intro x hx
      have := hk x hx
      simp only [Bool.not_eq_true', Bool.not_eq_false] at this
      simp [validC_mono d x this]
    rw [validC] at h ⊢
    split at h
    · rename_i hk; rw [if_pos hk]; exact h
    · rename_i hk
      rw [if_neg hk]
      split at h
      · cases h
      · rename_i hk2
        rw [if_neg hk2]
        split at h
        · rename_i hk3
          rw [if_pos hk3]
          simp only [Bool.and_eq_true, Bool.not_eq_true'] at h ⊢
          exact ⟨h.1, hany h.2⟩
        · rename_i hk3
          rw [if_neg hk3]
          split at h
          · rename_i hk4
            rw [if_pos hk4]
            simp only [Bool.and_eq_true, Bool.not_eq_true'] at h ⊢
            exact ⟨h.1, hany h.2⟩
          · cases h

theorem validC_le {d e : Nat} {c : Cond} (hde : d ≤ e) (h : validC d c = true) : validC e c = true := by
  induction hde with
  | refl => exact h
  | step _ ih => exact validC_mono _ _ ih

theorem notF_cases {f : Int} (h : 0 ≤ f ∧ f ≤ 2) : Int.tmod (3 - f) 3 = if f = 0 then 0 else 3 - f := by
  rw [Int.tmod_eq_emod_of_nonneg (by omega)]
  split <;> omega

theorem forced_sub {s t : List Res} (hst : SubR s t) : ∀ (d : Nat) (c : Cond), validC d c = true → forcedF s d c ≠ 0 → forcedF t d c = forcedF s d c
  | 0, c, hv, h => by simp [validC] at hv
  | d + 1, .mk k c v kids, hv, h => by
    rw [forcedF] at h ⊢
    rw [forcedF]
    rcases validC_inv hv with ⟨hk, h1, h2⟩ | ⟨hk, x, rfl, hx⟩ | ⟨hk, hx⟩
    · simp only [if_pos hk] at h ⊢
      cases hvs : valOf c s with
      | none => rw [hvs] at h; exact absurd rfl h
      | some w => rw [hst c w hvs]
    · have n1 : ¬ k = 1 := by omega
      simp only [if_neg n1, if_pos hk, List.map_cons, List.map_nil, notF] at h ⊢
      have hr := forcedF_range s d x
      rw [notF_cases hr] at h
      have hne : forcedF s d x ≠ 0 := fun h0 => by rw [if_pos h0] at h; exact h rfl
      rw [forced_sub hst d x hx hne]
    · have n1 : ¬ k = 1 := by omega
      have n2 : ¬ k = 2 := by omega
      simp only [if_neg n1, if_neg n2] at h ⊢
      generalize hone : (if k = 4 then (1 : Int) else 2) = one at h ⊢
      generalize (if k = 4 then (2 : Int) else 1) = all at h ⊢
      have hone0 : one ≠ 0 := by rw [← hone]; split <;> omega
      rw [foldF_eq hone0] at h
      rw [foldF_eq hone0, foldF_eq hone0]
      by_cases h1 : one ∈ kids.map fun x => forcedF s d x
      · have h2 : one ∈ kids.map fun x => forcedF t d x := by
          obtain ⟨x, hxm, hxe⟩ := List.mem_map.1 h1
          exact List.mem_map.2 ⟨x, hxm, by rw [forced_sub hst d x (hx x hxm) (by rw [hxe]; exact hone0), hxe]⟩
        rw [if_pos h1, if_pos h2]
      · rw [if_neg h1] at h
        by_cases h0 : (0 : Int) ∈ kids.map fun x => forcedF s d x
        · rw [if_pos h0] at h; exact absurd rfl h
        · have he : (kids.map fun x => forcedF t d x) = kids.map fun x => forcedF s d x :=
            List.map_congr_left fun x hxm => forced_sub hst d x (hx x hxm) fun h00 => h0 (List.mem_map.2 ⟨x, hxm, h00⟩)
          rw [he]

theorem forced_full {t : List Res} (hf : FullR t) : ∀ (d : Nat) (c : Cond), validC d c = true → forcedF t d c ≠ 0 ∧ (forcedF t d c = 1 ↔ holdsF t d c = true)
  | 0, c, hv => by simp [validC] at hv
  | d + 1, .mk k c v kids, hv => by
    rw [forcedF, holdsF]
    rcases validC_inv hv with ⟨hk, h1, h2⟩ | ⟨hk, x, rfl, hx⟩ | ⟨hk, hx⟩
    · simp only [if_pos hk]
      obtain ⟨w, hw⟩ := hf c h1 h2
      rw [hw]
      simp only [isF, isH]
      by_cases hwv : w = v
      · simp [hwv]
      · simp [hwv]
    · have n1 : ¬ k = 1 := by omega
      obtain ⟨i1, i2⟩ := forced_full hf d x hx
      have hr := forcedF_range t d x
      simp only [if_neg n1, if_pos hk, List.map_cons, List.map_nil, notF, List.headD_cons]
      rw [notF_cases hr, if_neg i1]
      refine ⟨by omega, ?_⟩
      cases hh : holdsF t d x with
      | true => rw [hh] at i2; have := i2.2 rfl; simp; omega
      | false => rw [hh] at i2; have : ¬ forcedF t d x = 1 := fun h => by have := i2.1 h; cases this
                 simp; omega
    · have n1 : ¬ k = 1 := by omega
      have n2 : ¬ k = 2 := by omega
      simp only [if_neg n1, if_neg n2]
      have ih := fun x hxm => forced_full hf d x (hx x hxm)
      have h0 : ¬ (0 : Int) ∈ kids.map fun x => forcedF t d x := fun h => by
        obtain ⟨x, hxm, hxe⟩ := List.mem_map.1 h
        exact (ih x hxm).1 hxe
      rcases hk with hk | hk
      · subst hk
        simp only [show ¬ (3 : Int) = 4 by omega, if_false, if_true]
        rw [foldF_eq (by omega), if_neg h0]
        by_cases h2 : (2 : Int) ∈ kids.map fun x => forcedF t d x
        · obtain ⟨x, hxm, hxe⟩ := List.mem_map.1 h2
          have hh : holdsF t d x = false := by
            cases hh : holdsF t d x with
            | false => rfl
            | true => have := (ih x hxm).2.2 hh; omega
          have : (kids.any fun x => !holdsF t d x) = true := List.any_eq_true.2 ⟨x, hxm, by rw [hh]; rfl⟩
          rw [if_pos h2, this]; simp
        · have : (kids.any fun x => !holdsF t d x) = false := by
            rw [List.any_eq_false]
            intro x hxm
            have hh := ih x hxm
            have hr := forcedF_range t d x
            have hne : forcedF t d x ≠ 2 := fun h => h2 (List.mem_map.2 ⟨x, hxm, h⟩)
            have := hh.2.1 (by have := hh.1; omega)
            simp [this]
          rw [if_neg h2, this]; simp
      · subst hk
        simp only [show ¬ (4 : Int) = 3 by omega, if_false, if_true]
        rw [foldF_eq (by omega), if_neg h0]
        by_cases h2 : (1 : Int) ∈ kids.map fun x => forcedF t d x
        · obtain ⟨x, hxm, hxe⟩ := List.mem_map.1 h2
          have : (kids.any fun x => holdsF t d x) = true := List.any_eq_true.2 ⟨x, hxm, (ih x hxm).2.1 hxe⟩
          rw [if_pos h2, this]; simp
        · have : (kids.any fun x => holdsF t d x) = false := by
            rw [List.any_eq_false]
            intro x hxm hx1
            exact h2 (List.mem_map.2 ⟨x, hxm, (ih x hxm).2.2 hx1⟩)
          rw [if_neg h2, this]; simp

/-! results that are made -/
theorem valOf_append {ch : Int} {s t : List Res} {v : Int} (h : valOf ch s = some v) : valOf ch (s ++ t) = some v := by
  unfold valOf at h ⊢
  rw [List.find?_append]
  simp only [Option.map_eq_some_iff] at h
  obtain ⟨r, hr, rfl⟩ := h
  simp [hr]

theorem SubR.take (s : List Res) (i : Nat) : SubR (s.take i) s := fun ch v h => by
  have := valOf_append (t := s.drop i) h
  rwa [List.take_append_drop] at this

theorem resM_valOf (l : List Int) : ∀ (k j : Nat), j < k → valOf (((j + 1 : Nat) : Int)) (resM l k) = some (1 + nextV l (min j l.length) 4)
  | 0, j, h => by omega
  | k + 1, j, h => by
    rw [resM_succ]
    by_cases hj : j < k
    · exact valOf_append (resM_valOf l k j hj)
    · have hjk : j = k := by omega
      subst hjk
      have hnone : (resM l j).find? (fun r => r.1 == ((j + 1 : Nat) : Int)) = none := by
        rw [List.find?_eq_none]
        intro r hr
        simp only [resM, List.mem_map, List.mem_range] at hr
        obtain ⟨i, hi, rfl⟩ := hr
        simp; omega
      unfold valOf
      rw [List.find?_append, hnone]
      simp

theorem resM_mem {l : List Int} {k : Nat} {r : Res} (h : r ∈ resM l k) : valOf r.1 (resM l k) = some r.2 := by
  simp only [resM, List.mem_map, List.mem_range] at h
  obtain ⟨i, hi, rfl⟩ := h
  exact resM_valOf l k i hi

theorem resM_full (l : List Int) : FullR (resM l 13) := fun ch h1 h2 => by
  have := resM_valOf l 13 (ch.toNat - 1) (by omega)
  rw [show (((ch.toNat - 1 + 1 : Nat) : Int)) = ch by omega] at this
  exact ⟨_, this⟩

theorem sub_of_mem {l : List Int} {k : Nat} {s : List Res} (h : ∀ r, r ∈ s → r ∈ resM l k) : SubR s (resM l k) := fun ch v hv => by
  unfold valOf at hv
  simp only [Option.map_eq_some_iff] at hv
  obtain ⟨r, hr, rfl⟩ := hv
  have hm := h r (List.mem_of_find?_eq_some hr)
  have hc := List.find?_some hr
  have : r.1 = ch := by simpa using hc
  rw [← this]
  exact resM_mem hm
end Tdoc
