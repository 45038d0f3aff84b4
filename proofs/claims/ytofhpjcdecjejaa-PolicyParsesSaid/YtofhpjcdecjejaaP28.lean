/- The two parsers' states side by side. -/
import Derived.Test.YtofhpjcdecjejaaP27
set_option linter.unusedVariables false
set_option linter.unusedSimpArgs false
namespace Tdoc
open Go Go.Proofs

def NowW (text : List UInt8) (ws : List Wd) (bro : Int) (s : PS) (i : Nat) : Prop := ws[i]? = some (s.nt, s.na) ∧ s.nt ≠ [] ∧ wf text s.a = (ws.drop (i + 1), bro)
def NowE (text : List UInt8) (ws : List Wd) (bro : Int) (s : PS) (i : Nat) : Prop := i = ws.length ∧ s.na = endR text bro ∧ Junk s.nt ∧ ((s.nt = [] ∧ bro = -1) ∨ (s.nt ≠ [] ∧ 0 ≤ bro))

structure Right (text : List UInt8) (ws : List Wd) (bro : Int) (s : PS) (rs : RS) : Prop where
  wr : s.wr = false
  bad : rs.bad < 0
  inv : Inv text s
  en : rs.en = endR text bro
  now : NowW text ws bro s rs.i ∨ NowE text ws bro s rs.i

def Wrong (s : PS) (rs : RS) : Prop := s.wr = true ∧ 0 ≤ rs.bad ∧ rs.bad = s.na

theorem Right.next {text : List UInt8} {ws : List Wd} {bro : Int} {s : PS} {rs : RS} (h : Right text ws bro s rs) (hn : NowW text ws bro s rs.i) : Right text ws bro (nextP text s) rs.inc := by
  obtain ⟨h1, h2, h3⟩ := hn
  obtain ⟨k1, k2, k3⟩ := h.inv.next
  have hlt := (List.getElem?_eq_some_iff.1 h1).1
  refine ⟨k3.trans h.wr, h.bad, k1, h.en, ?_⟩
  have hw := next_words text s h.inv.le
  rw [h3] at hw
  rcases hw with ⟨q1, q2⟩ | ⟨q1, q2, q3, q4⟩
  · left
    have e1 : ws.drop (rs.i + 1) = ((nextP text s).nt, (nextP text s).na) :: (wf text (nextP text s).a).1 := congrArg Prod.fst q1
    have e2 : bro = (wf text (nextP text s).a).2 := congrArg Prod.snd q1
    refine ⟨?_, q2, ?_⟩
    · show ws[rs.i + 1]? = _
      have := congrArg (fun l => l[0]?) e1
      simpa using this
    · have := congrArg List.tail e1
      rw [List.tail_drop] at this
      show wf text (nextP text s).a = (ws.drop (rs.i + 1 + 1), bro)
      rw [this, e2]; rfl
  · right
    refine ⟨?_, q2, q3, q4⟩
    show rs.i + 1 = ws.length
    have := congrArg List.length q1
    simp at this; omega
end Tdoc
