/- Series of conditions in both parsers. -/
import Derived.Test.YtofhpjcdecjejaaP30
set_option linter.unusedVariables false
set_option linter.unusedSimpArgs false
namespace Tdoc
open Go Go.Proofs

structure PRel (text : List UInt8) (ws : List Wd) (bro : Int) (n n' : Nat) (part : PS → Cond × PS) (partR : RS → Cond × RS) : Prop where
  right : ∀ s rs, Right text ws bro s rs → text.length - s.na < n → ws.length - rs.i < n' → (Right text ws bro (part s).2 (partR rs).2 ∧ (part s).1 = (partR rs).1) ∨ Wrong (part s).2 (partR rs).2
  wrong : ∀ s rs, Wrong s rs → Wrong (part s).2 (partR rs).2

theorem loopP_wrong {text : List UInt8} {kind : Int} {w : List UInt8} {part : PS → Cond × PS} {s : PS} (h : s.wr = true) : ∀ (m : Nat) (l : List Cond), loopP text kind w part m l s = (l, s)
  | 0, l => rfl
  | m + 1, l => by rw [loopP, isP_wr h]; rfl
theorem loopR_wrong {ws : List Wd} {w : List UInt8} {part : RS → Cond × RS} {s : RS} (h : 0 ≤ s.bad) : ∀ (m : Nat) (l : List Cond), loopR ws w part m l s = (l, s)
  | 0, l => rfl
  | m + 1, l => by rw [loopR, if_neg (by omega)]

theorem NowW.lt {text : List UInt8} {ws : List Wd} {bro : Int} {s : PS} {i : Nat} (h : NowW text ws bro s i) : i < ws.length := (List.getElem?_eq_some_iff.1 h.1).1

theorem loop_rel {text : List UInt8} {ws : List Wd} {bro : Int} {n n' : Nat} {part : PS → Cond × PS} {partR : RS → Cond × RS} (hr : PRel text ws bro n n' part partR) (hp : PartOk text n part) (hpR : POk ws n' partR) (kind : Int) {w : List UInt8} (hw : Real w) :
    ∀ (m m' : Nat) (l : List Cond) (s : PS) (rs : RS), Right text ws bro s rs → text.length - s.na < n → text.length - s.na < m → ws.length - rs.i < n' + 1 → ws.length - rs.i < m' →
      (Right text ws bro (loopP text kind w part m (flatL kind l) s).2 (loopR ws w partR m' l rs).2 ∧ (loopP text kind w part m (flatL kind l) s).1 = flatL kind (loopR ws w partR m' l rs).1 ∧ l.length + (if peekR ws rs = w then 1 else 0) ≤ (loopR ws w partR m' l rs).1.length)
      ∨ Wrong (loopP text kind w part m (flatL kind l) s).2 (loopR ws w partR m' l rs).2
  | 0, m', l, s, rs, h, h1, h2, h3, h4 => by omega
  | m + 1, 0, l, s, rs, h, h1, h2, h3, h4 => by omega
  | m + 1, m' + 1, l, s, rs, h, h1, h2, h3, h4 => by
    rw [loopP, loopR]
    by_cases he : peekR ws rs = w
    · have hn := (h.word hw he).lt
      have hb := h.bad
      obtain ⟨e1, k1⟩ := h.isT hw he
      have ht := isP_true (w := w) h.inv (by rw [e1])
      rw [e1] at ht
      obtain ⟨t1, t2, t3⟩ := ht
      simp only at t1 t2 t3
      have hwl : 0 < w.length := List.length_pos_iff.2 hw.1
      have hi : rs.inc.i = rs.i + 1 := rfl
      obtain ⟨q1, q2, q3⟩ := hp.inv _ t1 (by omega)
      obtain ⟨r1, r2, r3⟩ := hpR.inv rs.inc (by omega) (by omega)
      rw [e1, if_pos rfl, if_pos ⟨hb, he⟩]
      rcases hr.right _ _ k1 (by omega) (by omega) with ⟨v1, v2⟩ | v1
      · rw [v2, ← flatL_one, ← flatL_append]
        rcases loop_rel hr hp hpR kind hw m m' (l ++ [(partR rs.inc).1]) _ _ v1 (by omega) (by omega) (by omega) (by omega) with ⟨x1, x2, x3⟩ | x1
        · left
          refine ⟨x1, x2, ?_⟩
          rw [if_pos he]
          rw [List.length_append, List.length_singleton] at x3
          omega
        · right; exact x1
      · right
        rw [loopP_wrong v1.1, loopR_wrong v1.2.1]
        exact v1
    · rw [h.isF hw he, if_neg (by simp), if_neg (fun hh => he hh.2)]
      left
      exact ⟨h, rfl, by rw [if_neg he]; simp⟩
end Tdoc
