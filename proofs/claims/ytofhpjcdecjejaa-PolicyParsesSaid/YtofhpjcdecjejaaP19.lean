/- The reference: what a text means. -/
import Derived.Test.YtofhpjcdecjejaaP18
set_option linter.unusedVariables false
set_option linter.unusedSimpArgs false
namespace Tdoc
open Go Go.Proofs

/-- A cut between two pieces of code that forgets objects. -/
theorem AW_seq_cutC {P : Program} {E : Env} {N : Nat} {τ : Nat → AV} {h : List AObj} {Q : Exit → (Nat → AV) → List AObj → Prop} {x y : Code} {ι : Type} (S : ι → List (Nat × AV)) (H : ι → List AObj) (inv : ι → Prop)
    (hx : AW P E N x (thenA (fun τ' h' => ∃ i junk, inv i ∧ SubL τ' (S i) ∧ HLe h' (H i ++ junk) ∧ E.below (H i).length ∧ lowS (H i).length (S i) = true ∧ lowH (H i).length (H i) = true) Q) τ h) (hy : ∀ i, inv i → AW P E N y Q (look (S i)) (H i)) :
    AW P E N (.seq x y) Q τ h := by
  refine AW_seq (AW_mono hx fun e τ' h' hq => ?_)
  cases e with
  | normal => obtain ⟨i, junk, h1, h3, h4, h5, h6, h7⟩ := hq; exact AW_sub (Rel_cut h5 h3 h6 h4 h7) (hy i h1)
  | _ => exact hq

theorem flatL_small (kind : Int) : ∀ {l : List Cond}, smallCs l → smallCs (flatL kind l)
  | [], _ => trivial
  | a :: l, h => by
    rw [show a :: l = [a] ++ l from rfl, flatL_append, flatL_one]
    exact smallCs_append (flatC_small h.1) (flatL_small kind h.2)

theorem joinR_small {kind : Int} {l : List Cond} (h : smallCs l) (hf : (flatL kind l).length ≤ 1000000000) : smallC (joinR kind l) := by
  unfold joinR
  split
  · exact h.1
  · exact ⟨hf, flatL_small kind h⟩

def PSmall (ws : List Wd) (n : Nat) (part : RS → Cond × RS) : Prop := ∀ s, s.i ≤ ws.length → ws.length - s.i < n → smallC (part s).1

theorem loopR_small {ws : List Wd} {n : Nat} {part : RS → Cond × RS} (hp : POk ws n part) (hs : PSmall ws n part) {w : List UInt8} (hw : w ≠ []) : ∀ (m : Nat) (l : List Cond) (s : RS), ws.length - s.i < n + 1 → smallCs l → smallCs (loopR ws w part m l s).1
  | 0, l, s, hn, hl => hl
  | m + 1, l, s, hn, hl => by
    unfold loopR
    split
    · rename_i hc
      have hlt := peekR_lt (ws := ws) (s := s) (by rw [hc.2]; exact hw)
      have hi : s.inc.i = s.i + 1 := rfl
      obtain ⟨q1, q2, q3⟩ := hp.inv s.inc (by omega) (by omega)
      exact loopR_small hp hs hw m _ _ (by omega) (smallCs_append hl ⟨hs s.inc (by omega) (by omega), trivial⟩)
    · exact hl

theorem seriesR_small {ws : List Wd} {n : Nat} {part : RS → Cond × RS} (hl : ws.length ≤ 1000000) (hn1 : n ≤ 1000001) (hp : POk ws n part) (hs : PSmall ws n part) (kind : Int) {w : List UInt8} (hw : w ≠ []) : PSmall ws n (seriesR ws kind w part) := by
  intro s h hn
  have h1 := LOk.one (kind := kind) hp h hn
  have hlo := h1.lo
  have h2 := loopR_ok hp hw (ws.length + 1) _ _ h1 (by omega)
  have := h2.flat; have := h2.hi
  exact joinR_small (loopR_small hp hs hw _ _ _ (by omega) ⟨hs s h hn, trivial⟩) (by omega)

theorem atomR_small {ws : List Wd} (hl : ws.length ≤ 1000000) : ∀ n, n ≤ 1000001 → PSmall ws n (atomR ws n)
  | 0, _ => fun s _ hn => by omega
  | n + 1, hn1 => by
    have ih := atomR_small hl n (by omega)
    intro s h hn
    have hi : s.inc.i = s.i + 1 := rfl
    unfold atomR
    split
    · exact ⟨by simp, trivial⟩
    · split
      · rename_i hc
        have hlt := peekR_lt (ws := ws) (s := s) (by rw [hc]; decide)
        exact ⟨by simp, ih s.inc (by omega) (by omega), trivial⟩
      · split
        · rename_i hc
          have hlt := peekR_lt (ws := ws) (s := s) (by rw [hc]; decide)
          exact seriesR_small hl (by omega) (conjR_ok ws n) (seriesR_small hl (by omega) (atomR_ok ws n) ih 3 (w := andW) (by decide)) 4 (w := orW) (by decide) s.inc (by omega) (by omega)
        · split
          · exact ⟨by simp, trivial⟩
          · split <;> exact ⟨by simp, trivial⟩

theorem condR'_small {ws : List Wd} (hl : ws.length ≤ 1000000) {n : Nat} (hn : n ≤ 1000001) : PSmall ws n (condR' ws n) :=
  seriesR_small hl hn (conjR_ok ws n) (seriesR_small hl hn (atomR_ok ws n) (atomR_small hl n hn) 3 (w := andW) (by decide)) 4 (w := orW) (by decide)

/-- One rule, its verdict being a word. -/
def ruleR (ws : List Wd) (s : RS) : Rule × RS :=
  if peekR ws s.inc = ifW then (.mk (sIdx vds (peekR ws s) + 1) false (condR' ws (ws.length + 1) s.inc.inc).1, takeR ws (condR' ws (ws.length + 1) s.inc.inc).2 scW)
  else (.mk (sIdx vds (peekR ws s) + 1) true (.mk 0 0 0 []), takeR ws s.inc scW)

def rulesR (ws : List Wd) : Nat → List Rule → RS → List Rule × RS
  | 0, l, s => (l, s)
  | m + 1, l, s => if s.bad < 0 ∧ s.i < ws.length then (if sIdx vds (peekR ws s) + 1 = 0 then (l, failR ws s) else rulesR ws m (l ++ [(ruleR ws s).1]) (ruleR ws s).2) else (l, s)

def endR (text : List UInt8) (bro : Int) : Int := if 0 ≤ bro then bro else text.length
def parseQR (text : List UInt8) (wb : List Wd × Int) : List Rule × RS := rulesR wb.1 (wb.1.length + 1) [] ⟨0, endR text wb.2, -1⟩
def badR (wb : List Wd × Int) (s : RS) : Int := if s.bad < 0 then wb.2 else s.bad
def parseR (text : List UInt8) : List Rule × Int × Int :=
  if text.length > 4096 then ([], 0, 72)
  else if 0 ≤ badR (wordsR text (text.length + 1) 0 []) (parseQR text (wordsR text (text.length + 1) 0 [])).2 then ([], badR (wordsR text (text.length + 1) 0 []) (parseQR text (wordsR text (text.length + 1) 0 [])).2, 71)
  else if validPol (parseQR text (wordsR text (text.length + 1) 0 [])).1 ≠ 0 then ([], 0, 72) else ((parseQR text (wordsR text (text.length + 1) 0 [])).1, 0, 0)

theorem wordsR_len (text : List UInt8) : ∀ (m i : Nat) (out : List Wd), out.length ≤ i → i ≤ text.length → (wordsR text m i out).1.length ≤ text.length
  | 0, i, out, h1, h2 => by simp only [wordsR]; omega
  | m + 1, i, out, h1, h2 => by
    rw [wordsR]
    have hl := congrArg List.length (rfl : text.drop i = text.drop i)
    split
    · simp only; omega
    · rename_i c r hd
      have hlen : (c :: r).length = text.length - i := by rw [← hd]; simp
      have hc := cmt_le (c :: r); have hw := lets_le (c :: r)
      rw [hlen] at hc hw
      have hpos : 0 < text.length - i := by rw [← hlen]; simp
      split
      · exact wordsR_len text m _ _ (by omega) (by omega)
      · split
        · exact wordsR_len text m _ _ (by omega) (by omega)
        · split
          · exact wordsR_len text m _ _ (by simp; omega) (by omega)
          · split
            · rename_i hlow
              have : 0 < lets (c :: r) := by rw [lets, if_pos hlow]; omega
              exact wordsR_len text m _ _ (by simp; omega) (by omega)
            · simp only; omega

theorem ruleR_ok {ws : List Wd} (hl : ws.length ≤ 1000000) {s : RS} (h : s.i < ws.length) :
    s.i < (ruleR ws s).2.i ∧ (ruleR ws s).2.i ≤ 3000000 ∧ smallC (condR (ruleR ws s).1) := by
  have e1 : ∀ x : RS, x.inc.i = x.i + 1 := fun _ => rfl
  unfold ruleR
  split
  · rename_i hc
    have hlt := peekR_lt (ws := ws) (s := s.inc) (by rw [hc]; decide)
    rw [e1] at hlt
    obtain ⟨q1, q2, q3⟩ := (condR'_ok ws (ws.length + 1)).inv s.inc.inc (by simp only [e1]; omega) (by simp only [e1]; omega)
    simp only [e1] at q1
    exact ⟨by simp only [takeR_i]; omega, by simp only [takeR_i]; omega, condR'_small hl (by omega) s.inc.inc (by simp only [e1]; omega) (by simp only [e1]; omega)⟩
  · exact ⟨by simp only [takeR_i, e1]; omega, by simp only [takeR_i, e1]; omega, by simp, trivial⟩
end Tdoc
