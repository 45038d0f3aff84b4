/- The reference's parser: names, and what is done at one word. -/
import Derived.Test.YtoaogfehdalmdaaK3
import Derived.Test.YtoaogfehdalmdaaK2
set_option linter.unusedVariables false
set_option linter.unusedSimpArgs false
namespace Tdoc
open Go Go.Proofs

abbrev Wd := List UInt8 × Nat
def encWs (l : List Wd) : List (List Dat) := l.map fun w => [.str w.1, .int .i64 w.2]
theorem encWs_length (l : List Wd) : (encWs l).length = l.length := by simp [encWs]

/-- The reference parser's state: where it is, where the text ends, and where the first wrong word is. -/
structure RS where
  i : Nat
  en : Int
  bad : Int

def rsr (ws : List Wd) : RS → List AV
  | ⟨i, en, bad⟩ => [.d (.sl 2 (encWs ws)), .d (.int .i64 i), .d (.int .i64 en), .d (.int .i64 bad)]

theorem low_rsr (k : Nat) (ws : List Wd) (s : RS) : lowL k (rsr ws s) = true := by cases s; rfl
theorem lowH_rsr (k : Nat) (ws : List Wd) (s : RS) : lowH k [.row (rsr ws s)] = true := by cases s; rfl

def peekR (ws : List Wd) (s : RS) : List UInt8 := match ws[s.i]? with
  | some w => w.1
  | none => []
def failR (ws : List Wd) (s : RS) : RS := if s.bad < 0 then { s with bad := match ws[s.i]? with
  | some w => w.2
  | none => s.en } else s
def takeR (ws : List Wd) (s : RS) (w : List UInt8) : RS := if s.bad < 0 ∧ peekR ws s ≠ w then { failR ws s with i := s.i + 1 } else { s with i := s.i + 1 }

end Tdoc
/- The reference's parser: the words of a text. -/
set_option linter.unusedVariables false
set_option linter.unusedSimpArgs false
namespace Tdoc
open Go Go.Proofs

/-- How many bytes a comment goes on. -/
def cmt : List UInt8 → Nat
  | [] => 0
  | c :: r => if c = 10 then 0 else cmt r + 1

theorem cmt_le : ∀ (l : List UInt8), cmt l ≤ l.length
  | [] => by simp [cmt]
  | c :: r => by have := cmt_le r; simp only [cmt, List.length_cons]; split <;> omega

def wordsR (text : List UInt8) : Nat → Nat → List Wd → List Wd × Int
  | 0, i, out => (out, -1)
  | m + 1, i, out => match text.drop i with
    | [] => (out, -1)
    | c :: r => if c = 32 ∨ c = 10 then wordsR text m (i + 1) out
      else if c = 35 then wordsR text m (i + cmt (c :: r)) out
      else if (c = 40 ∨ c = 41) ∨ c = 59 then wordsR text m (i + 1) (out ++ [([c], i)])
      else if isLow c = true then wordsR text m (i + lets (c :: r)) (out ++ [((c :: r).take (lets (c :: r)), i)])
      else (out, i)

theorem byteI {c d : UInt8} {k : Int} (hd : (d.toNat : Int) = k) : (c.toNat : Int) = k ↔ c = d :=
  ⟨fun h => UInt8.toNat_inj.1 (Int.ofNat_inj.1 (h.trans hd.symm)), fun h => by rw [h]; exact hd⟩

end Tdoc
/- The reference's parser: conditions as one. -/
set_option linter.unusedVariables false
set_option linter.unusedSimpArgs false
namespace Tdoc
open Go Go.Proofs

def flatL (kind : Int) (l : List Cond) : List Cond := l.flatMap (flatC kind)
def joinR (kind : Int) : List Cond → Cond
  | [c] => c
  | l => .mk kind 0 0 (flatL kind l)

theorem flatL_append (kind : Int) (a b : List Cond) : flatL kind (a ++ b) = flatL kind a ++ flatL kind b := by simp [flatL]
theorem flatL_one (kind : Int) (c : Cond) : flatL kind [c] = flatC kind c := by simp [flatL]
theorem flatL_take_le (kind : Int) (l : List Cond) (k : Nat) : (flatL kind (l.take k)).length ≤ (flatL kind l).length := by
  have h : flatL kind l = flatL kind (l.take k) ++ flatL kind (l.drop k) := by rw [← flatL_append, List.take_append_drop]
  rw [h, List.length_append]; omega
theorem flatL_take_succ (kind : Int) {l : List Cond} {k : Nat} (hk : k < l.length) : flatL kind (l.take (k + 1)) = flatL kind (l.take k) ++ flatC kind l[k] := by
  rw [List.take_succ_eq_append_getElem hk, flatL_append, flatL_one]

end Tdoc
/- The reference's parser: conditions. -/
set_option linter.unusedVariables false
set_option linter.unusedSimpArgs false
namespace Tdoc
open Go Go.Proofs

def RS.inc (s : RS) : RS := { s with i := s.i + 1 }

def loopR (ws : List Wd) (w : List UInt8) (part : RS → Cond × RS) : Nat → List Cond → RS → List Cond × RS
  | 0, l, s => (l, s)
  | m + 1, l, s => if s.bad < 0 ∧ peekR ws s = w then loopR ws w part m (l ++ [(part s.inc).1]) (part s.inc).2 else (l, s)

def seriesR (ws : List Wd) (kind : Int) (w : List UInt8) (part : RS → Cond × RS) (s : RS) : Cond × RS :=
  (joinR kind (loopR ws w part (ws.length + 1) [(part s).1] (part s).2).1, (loopR ws w part (ws.length + 1) [(part s).1] (part s).2).2)

def atomR (ws : List Wd) : Nat → RS → Cond × RS
  | 0, s => (.mk 0 0 0 [], s)
  | n + 1, s =>
    if 0 ≤ s.bad then (.mk 0 0 0 [], s)
    else if peekR ws s = notW then (.mk 2 0 0 [(atomR ws n s.inc).1], (atomR ws n s.inc).2)
    else if peekR ws s = lpW then ((seriesR ws 4 orW (seriesR ws 3 andW (atomR ws n)) s.inc).1, takeR ws (seriesR ws 4 orW (seriesR ws 3 andW (atomR ws n)) s.inc).2 rpW)
    else if sIdx chk (peekR ws s) + 1 = 0 then (.mk 0 0 0 [], failR ws s)
    else if peekR ws s.inc = isW then
      (.mk 1 (sIdx chk (peekR ws s) + 1) (sIdx vls (peekR ws s.inc.inc) + 1) [], (if sIdx vls (peekR ws s.inc.inc) + 1 = 0 then failR ws s.inc.inc else s.inc.inc).inc)
    else (.mk 1 (sIdx chk (peekR ws s) + 1) 1 [], s.inc)

def conjR (ws : List Wd) (n : Nat) : RS → Cond × RS := seriesR ws 3 andW (atomR ws n)
def condR' (ws : List Wd) (n : Nat) : RS → Cond × RS := seriesR ws 4 orW (conjR ws n)

theorem failR_i (ws : List Wd) (s : RS) : (failR ws s).i = s.i := by unfold failR; split <;> rfl
theorem takeR_i (ws : List Wd) (s : RS) (w : List UInt8) : (takeR ws s w).i = s.i + 1 := by unfold takeR; split <;> rfl
theorem peekR_lt {ws : List Wd} {s : RS} (h : peekR ws s ≠ []) : s.i < ws.length := by
  unfold peekR at h
  split at h
  · rename_i w hw; exact (List.getElem?_eq_some_iff.1 hw).1
  · exact absurd rfl h

structure POk (ws : List Wd) (n : Nat) (part : RS → Cond × RS) : Prop where
  inv : ∀ s, s.i ≤ ws.length → ws.length - s.i < n → s.i ≤ (part s).2.i ∧ (part s).2.i ≤ ws.length + n ∧ wideC (part s).1 ≤ 1 + ((part s).2.i - s.i)

/-- What a list of conditions keeps. -/
structure LOk (ws : List Wd) (kind : Int) (n b : Nat) (l : List Cond) (s : RS) : Prop where
  lo : b ≤ s.i
  hi : s.i ≤ ws.length + n
  len : l.length ≤ 1 + (s.i - b)
  flat : (flatL kind l).length ≤ 1 + (s.i - b)
  wide : ∀ c, c ∈ l → wideC c ≤ 1 + (s.i - b)

theorem LOk.one {ws : List Wd} {kind : Int} {n : Nat} {part : RS → Cond × RS} (hp : POk ws n part) {s : RS} (h : s.i ≤ ws.length) (hn : ws.length - s.i < n) : LOk ws kind n s.i [(part s).1] (part s).2 := by
  obtain ⟨k1, k2, k3⟩ := hp.inv s h hn
  have hf := flatC_len kind (part s).1
  refine ⟨k1, k2, by simp, by rw [flatL_one]; omega, fun c hc => ?_⟩
  rw [List.mem_singleton.1 hc]; exact k3

theorem LOk.more {ws : List Wd} {kind : Int} {n b : Nat} {part : RS → Cond × RS} (hp : POk ws n part) {l : List Cond} {s : RS} (h : LOk ws kind n b l s) (hlt : s.i < ws.length) (hn : ws.length - s.i < n + 1) :
    LOk ws kind n b (l ++ [(part s.inc).1]) (part s.inc).2 ∧ s.i < (part s.inc).2.i := by
  have hi : s.inc.i = s.i + 1 := rfl
  obtain ⟨k1, k2, k3⟩ := hp.inv s.inc (by omega) (by omega)
  have hf := flatC_len kind (part s.inc).1
  have := h.lo; have := h.len; have := h.flat
  refine ⟨⟨by omega, k2, by rw [List.length_append, List.length_singleton]; omega, by rw [flatL_append, flatL_one, List.length_append]; omega, fun c hc => ?_⟩, by omega⟩
  rcases List.mem_append.1 hc with hc | hc
  · have := h.wide c hc; omega
  · rw [List.mem_singleton.1 hc]; omega

theorem loopR_ok {ws : List Wd} {kind : Int} {n b : Nat} {part : RS → Cond × RS} (hp : POk ws n part) {w : List UInt8} (hw : w ≠ []) : ∀ (m : Nat) (l : List Cond) (s : RS), LOk ws kind n b l s → ws.length - s.i < n + 1 →
    LOk ws kind n b (loopR ws w part m l s).1 (loopR ws w part m l s).2
  | 0, l, s, h, hn => h
  | m + 1, l, s, h, hn => by
    unfold loopR
    split
    · rename_i hc
      have hlt := peekR_lt (ws := ws) (s := s) (by rw [hc.2]; exact hw)
      obtain ⟨h1, h2⟩ := h.more hp hlt hn
      exact loopR_ok hp hw m _ _ h1 (by omega)
    · exact h

theorem joinR_wide {ws : List Wd} {kind : Int} {n b : Nat} {l : List Cond} {s : RS} (h : LOk ws kind n b l s) : wideC (joinR kind l) ≤ 1 + (s.i - b) := by
  unfold joinR
  split
  · exact h.wide _ (by simp)
  · exact h.flat

theorem seriesR_ok {ws : List Wd} {n : Nat} {part : RS → Cond × RS} (hp : POk ws n part) (kind : Int) {w : List UInt8} (hw : w ≠ []) : POk ws n (seriesR ws kind w part) := by
  refine ⟨fun s h hn => ?_⟩
  have h1 := LOk.one (kind := kind) hp h hn
  have hlo := h1.lo
  have h2 := loopR_ok hp hw (ws.length + 1) _ _ h1 (by omega)
  exact ⟨h2.lo, h2.hi, joinR_wide h2⟩

theorem atomR_ok (ws : List Wd) : ∀ n, POk ws n (atomR ws n)
  | 0 => ⟨fun s _ hn => by omega⟩
  | n + 1 => by
    have ih := atomR_ok ws n
    refine ⟨fun s h hn => ?_⟩
    have hi : s.inc.i = s.i + 1 := rfl
    unfold atomR
    split
    · exact ⟨Nat.le_refl _, by simp only; omega, by simp only [wideC, List.length_nil]; omega⟩
    · split
      · rename_i hc
        have hlt := peekR_lt (ws := ws) (s := s) (by rw [hc]; decide)
        obtain ⟨q1, q2, q3⟩ := ih.inv s.inc (by omega) (by omega)
        exact ⟨by simp only; omega, by simp only; omega, by simp only [wideC, List.length_cons, List.length_nil]; omega⟩
      · split
        · rename_i hc
          have hlt := peekR_lt (ws := ws) (s := s) (by rw [hc]; decide)
          obtain ⟨q1, q2, q3⟩ := (seriesR_ok (seriesR_ok ih 3 (w := andW) (by decide)) 4 (w := orW) (by decide)).inv s.inc (by omega) (by omega)
          exact ⟨by simp only [takeR_i]; omega, by simp only [takeR_i]; omega, by simp only [takeR_i]; omega⟩
        · split
          · exact ⟨by simp only [failR_i]; omega, by simp only [failR_i]; omega, by simp only [wideC, List.length_nil]; omega⟩
          · rename_i hc
            have hlt := peekR_lt (ws := ws) (s := s) (by intro hz; rw [hz] at hc; exact hc (by decide))
            split
            · rename_i hc2
              have hlt2 := peekR_lt (ws := ws) (s := s.inc) (by rw [hc2]; decide)
              have e1 : ∀ x : RS, x.inc.i = x.i + 1 := fun _ => rfl
              refine ⟨?_, ?_, by simp only [wideC, List.length_nil]; omega⟩
              · simp only [e1]; split <;> simp only [failR_i, e1] <;> omega
              · simp only [e1]; split <;> simp only [failR_i, e1] <;> omega
            · exact ⟨by simp only; omega, by simp only; omega, by simp only [wideC, List.length_nil]; omega⟩

theorem conjR_ok (ws : List Wd) (n : Nat) : POk ws n (conjR ws n) := seriesR_ok (atomR_ok ws n) 3 (by decide)
theorem condR'_ok (ws : List Wd) (n : Nat) : POk ws n (condR' ws n) := seriesR_ok (conjR_ok ws n) 4 (by decide)

def PSpec (ws : List Wd) (n : Nat) (g : FuncId) (part : RS → Cond × RS) : Prop :=
  ∀ s, s.i ≤ ws.length → ws.length - s.i < n → Spec Try.prog g [.ptr 0 0] [.row (rsr ws s)] (fun r h' => r = cAV (part s).1 ∧ h' = [.row (rsr ws (part s).2)])

end Tdoc
/- The reference's parser: the smallest conditions, and all of them. -/
set_option linter.unusedVariables false
set_option linter.unusedSimpArgs false
namespace Tdoc
open Go Go.Proofs

end Tdoc
/- The reference: a condition and a policy are the same as themselves. -/
set_option linter.unusedVariables false
set_option linter.unusedSimpArgs false
namespace Tdoc
open Go Go.Proofs

set_option maxHeartbeats 4000000 in
set_option maxRecDepth 100000 in
theorem SameCond_spec : ∀ (c : Cond), smallC c → Spec Try.prog 24 [cAV c, cAV c] [] (fun r h' => r = .d (.bool true) ∧ h' = [])
  | .mk k c v kids, hs => by
    have ih : ∀ x, x ∈ kids → Spec Try.prog 24 [cAV x, cAV x] [] (fun r h' => r = .d (.bool true) ∧ h' = []) := fun x hx => SameCond_spec x (smallCs_at hs.2 x hx)
    have hlen := encCs_length kids
    have hs1 := hs.1
    refine Spec_of_body hT Try.func24 rfl rfl rfl rfl ?_
    intro E hE
    repeat (first | refine wk hT rfl rfl ?_ | refine wd hT rfl rfl rfl ?_ | refine wz hT rfl ?_ | refine AWd_nil ?_ | refine AWk_nil ?_ | refine wh hT rfl rfl rfl rfl ?_ | refine wg hT rfl rfl rfl rfl rfl ?_ | refine AW_seq ?_ | refine AW_region ?_ | refine wx mixed ?_ | refine AW_block ?_ | refine AW_skip ?_ | refine AW_exit ?_ | refine AW_ret ?_)
    refine AW_condL rfl (fun hf => by simp at hf) (fun _ => ?_)
    repeat (first | refine wk hT rfl rfl ?_ | refine wd hT rfl rfl rfl ?_ | refine wz hT rfl ?_ | refine AWd_nil ?_ | refine AWk_nil ?_ | refine wh hT rfl rfl rfl rfl ?_ | refine wg hT rfl rfl rfl rfl rfl ?_ | refine AW_seq ?_ | refine AW_region ?_ | refine wx mixed ?_ | refine AW_block ?_ | refine AW_skip ?_ | refine AW_exit ?_ | refine AW_ret ?_)
    refine AW_loopL (ι := Nat) (fun j => [(2, .ptr 0 0), (3, .ptr 1 0), (5, .d (.int .i64 j))])
      (fun _ => [.row [.d (.int .i64 k), .d (.int .i64 c), .d (.int .i64 v), .d (.sl 4 (encCs kids))], .row [.d (.int .i64 k), .d (.int .i64 c), .d (.int .i64 v), .d (.sl 4 (encCs kids))]])
      (fun j => j ≤ kids.length) (fun j => kids.length - j) 0 (by omega) ⟨.refl _, .refl _, .refl _, trivial⟩ (HLe.refl _) ?_
    intro j hj
    repeat (first | refine wk hT rfl rfl ?_ | refine wd hT rfl rfl rfl ?_ | refine wz hT rfl ?_ | refine AWd_nil ?_ | refine AWk_nil ?_ | refine wh hT rfl rfl rfl rfl ?_ | refine wg hT rfl rfl rfl rfl rfl ?_ | refine AW_seq ?_ | refine AW_region ?_ | refine wx mixed ?_ | refine AW_block ?_ | refine AW_skip ?_ | refine AW_exit ?_ | refine AW_ret ?_)
    refine AW_condL rfl (fun h1 => ?_) (fun h1 => ?_)
    · have hlt : j < kids.length := by rw [hlen] at h1; simpa using h1
      have hel : (encCs kids)[((j : Int)).toNat]? = some (encC kids[j]) := by simp [encCs_eq, hlt]
      have hx := ih kids[j] (List.getElem_mem hlt)
      generalize kids[j] = x at hel hx
      obtain ⟨xk, xc, xv, xkids⟩ := x
      have hwr : IntKind.i64.wrap ((j : Int) + 1) = ((j + 1 : Nat) : Int) := by rw [wrap_id (by omega)]; simp
      repeat (first | refine wk hT rfl rfl ?_ | refine wd hT rfl rfl rfl ?_ | refine wz hT rfl ?_ | refine AWd_nil ?_ | refine AWk_nil ?_ | refine wh hT rfl rfl rfl rfl ?_ | refine wg hT rfl rfl rfl rfl rfl ?_ | refine AW_seq ?_ | refine AW_region ?_ | refine wx mixed ?_ | refine AW_block ?_ | refine AW_skip ?_ | refine AW_exit ?_ | refine AW_ret ?_)
      refine AWd_op (OpS_of_pure (indexAddr_ok hT rfl rfl rfl rfl (by omega) hel)) rfl rfl ?_
      repeat (first | refine wk hT rfl rfl ?_ | refine wd hT rfl rfl rfl ?_ | refine wz hT rfl ?_ | refine AWd_nil ?_ | refine AWk_nil ?_ | refine wh hT rfl rfl rfl rfl ?_ | refine wg hT rfl rfl rfl rfl rfl ?_ | refine AW_seq ?_ | refine AW_region ?_ | refine wx mixed ?_ | refine AW_block ?_ | refine AW_skip ?_ | refine AW_exit ?_ | refine AW_ret ?_)
      refine AWd_op (OpS_of_pure (indexAddr_ok hT rfl rfl rfl rfl (by omega) hel)) rfl rfl ?_
      repeat (first | refine wk hT rfl rfl ?_ | refine wd hT rfl rfl rfl ?_ | refine wz hT rfl ?_ | refine AWd_nil ?_ | refine AWk_nil ?_ | refine wh hT rfl rfl rfl rfl ?_ | refine wg hT rfl rfl rfl rfl rfl ?_ | refine AW_seq ?_ | refine AW_region ?_ | refine wx mixed ?_ | refine AW_block ?_ | refine AW_skip ?_ | refine AW_exit ?_ | refine AW_ret ?_)
      refine AWd_op (callS0 rfl rfl hx rfl rfl rfl) rfl rfl ?_
      repeat (first | refine wk hT rfl rfl ?_ | refine wd hT rfl rfl rfl ?_ | refine wz hT rfl ?_ | refine AWd_nil ?_ | refine AWk_nil ?_ | refine wh hT rfl rfl rfl rfl ?_ | refine wg hT rfl rfl rfl rfl rfl ?_ | refine AW_seq ?_ | refine AW_region ?_ | refine wx mixed ?_ | refine AW_block ?_ | refine AW_skip ?_ | refine AW_exit ?_ | refine AW_ret ?_)
      refine AW_condL rfl (fun hf => by simp at hf) (fun _ => ?_)
      repeat (first | refine wk hT rfl rfl ?_ | refine wd hT rfl rfl rfl ?_ | refine wz hT rfl ?_ | refine AWd_nil ?_ | refine AWk_nil ?_ | refine wh hT rfl rfl rfl rfl ?_ | refine wg hT rfl rfl rfl rfl rfl ?_ | refine AW_seq ?_ | refine AW_region ?_ | refine wx mixed ?_ | refine AW_block ?_ | refine AW_skip ?_ | refine AW_exit ?_ | refine AW_ret ?_)
      exact ⟨j + 1, by omega, by omega, ⟨.refl _, .refl _, AV.le.eq (by show AV.d (.int .i64 (IntKind.i64.wrap ((j : Int) + 1))) = _; rw [hwr]), trivial⟩, HLe.refl _⟩
    · repeat (first | refine wk hT rfl rfl ?_ | refine wd hT rfl rfl rfl ?_ | refine wz hT rfl ?_ | refine AWd_nil ?_ | refine AWk_nil ?_ | refine wh hT rfl rfl rfl rfl ?_ | refine wg hT rfl rfl rfl rfl rfl ?_ | refine AW_seq ?_ | refine AW_region ?_ | refine wx mixed ?_ | refine AW_block ?_ | refine AW_skip ?_ | refine AW_exit ?_ | refine AW_ret ?_)
      exact ret_exact rfl (.refl _) rfl rfl rfl rfl ⟨rfl, rfl⟩
termination_by c => sizeOf c
decreasing_by
  have := List.sizeOf_lt_of_mem hx
  simp only [Cond.mk.sizeOf_spec]
  omega

set_option maxHeartbeats 4000000 in
set_option maxRecDepth 100000 in
theorem Same_spec (l : List Rule) (hl : l.length ≤ 1000000) (hs : ∀ r, r ∈ l → smallC (condR r)) : Spec Try.prog 10 [polAV l, polAV l] [] (fun r h' => r = .d (.bool true) ∧ h' = []) := by
  have hlen : (encRs l).length = l.length := by simp [encRs]
  refine Spec_of_body hT Try.func10 rfl rfl rfl rfl ?_
  intro E hE
  repeat (first | refine wk hT rfl rfl ?_ | refine wd hT rfl rfl rfl ?_ | refine wz hT rfl ?_ | refine AWd_nil ?_ | refine AWk_nil ?_ | refine wh hT rfl rfl rfl rfl ?_ | refine wg hT rfl rfl rfl rfl rfl ?_ | refine AW_seq ?_ | refine AW_region ?_ | refine wx mixed ?_ | refine AW_block ?_ | refine AW_skip ?_ | refine AW_exit ?_ | refine AW_ret ?_)
  refine AW_condL rfl (fun hf => by simp at hf) (fun _ => ?_)
  repeat (first | refine wk hT rfl rfl ?_ | refine wd hT rfl rfl rfl ?_ | refine wz hT rfl ?_ | refine AWd_nil ?_ | refine AWk_nil ?_ | refine wh hT rfl rfl rfl rfl ?_ | refine wg hT rfl rfl rfl rfl rfl ?_ | refine AW_seq ?_ | refine AW_region ?_ | refine wx mixed ?_ | refine AW_block ?_ | refine AW_skip ?_ | refine AW_exit ?_ | refine AW_ret ?_)
  refine AW_loopL (ι := Nat) (fun j => [(2, .ptr 0 0), (3, .ptr 1 0), (5, .d (.int .i64 j))])
    (fun _ => [.row [.d (.sl 6 (encRs l))], .row [.d (.sl 6 (encRs l))]])
    (fun j => j ≤ l.length) (fun j => l.length - j) 0 (by omega) ⟨.refl _, .refl _, .refl _, trivial⟩ (HLe.refl _) ?_
  intro j hj
  repeat (first | refine wk hT rfl rfl ?_ | refine wd hT rfl rfl rfl ?_ | refine wz hT rfl ?_ | refine AWd_nil ?_ | refine AWk_nil ?_ | refine wh hT rfl rfl rfl rfl ?_ | refine wg hT rfl rfl rfl rfl rfl ?_ | refine AW_seq ?_ | refine AW_region ?_ | refine wx mixed ?_ | refine AW_block ?_ | refine AW_skip ?_ | refine AW_exit ?_ | refine AW_ret ?_)
  refine AW_condL rfl (fun h1 => ?_) (fun h1 => ?_)
  · have hlt : j < l.length := by rw [hlen] at h1; simpa using h1
    have hel : (encRs l)[((j : Int)).toNat]? = some (encR l[j]) := by simp [encRs, hlt]
    have hx := SameCond_spec (condR l[j]) (hs l[j] (List.getElem_mem hlt))
    generalize l[j] = x at hel hx
    obtain ⟨xv, xal, ⟨ck, cc, cv, kids⟩⟩ := x
    have hwr : IntKind.i64.wrap ((j : Int) + 1) = ((j + 1 : Nat) : Int) := by rw [wrap_id (by omega)]; simp
    repeat (first | refine wk hT rfl rfl ?_ | refine wd hT rfl rfl rfl ?_ | refine wz hT rfl ?_ | refine AWd_nil ?_ | refine AWk_nil ?_ | refine wh hT rfl rfl rfl rfl ?_ | refine wg hT rfl rfl rfl rfl rfl ?_ | refine AW_seq ?_ | refine AW_region ?_ | refine wx mixed ?_ | refine AW_block ?_ | refine AW_skip ?_ | refine AW_exit ?_ | refine AW_ret ?_)
    refine AWd_op (OpS_of_pure (indexAddr_ok hT rfl rfl rfl rfl (by omega) hel)) rfl rfl ?_
    repeat (first | refine wk hT rfl rfl ?_ | refine wd hT rfl rfl rfl ?_ | refine wz hT rfl ?_ | refine AWd_nil ?_ | refine AWk_nil ?_ | refine wh hT rfl rfl rfl rfl ?_ | refine wg hT rfl rfl rfl rfl rfl ?_ | refine AW_seq ?_ | refine AW_region ?_ | refine wx mixed ?_ | refine AW_block ?_ | refine AW_skip ?_ | refine AW_exit ?_ | refine AW_ret ?_)
    refine AWd_op (OpS_of_pure (indexAddr_ok hT rfl rfl rfl rfl (by omega) hel)) rfl rfl ?_
    repeat (first | refine wk hT rfl rfl ?_ | refine wd hT rfl rfl rfl ?_ | refine wz hT rfl ?_ | refine AWd_nil ?_ | refine AWk_nil ?_ | refine wh hT rfl rfl rfl rfl ?_ | refine wg hT rfl rfl rfl rfl rfl ?_ | refine AW_seq ?_ | refine AW_region ?_ | refine wx mixed ?_ | refine AW_block ?_ | refine AW_skip ?_ | refine AW_exit ?_ | refine AW_ret ?_)
    refine AWd_gop rfl rfl rfl rfl (fun hg => ⟨by first | exact True.intro | exact ⟨hg, True.intro⟩ | exact ⟨hg, hg, True.intro⟩, OpS_of_pure (indexAddr_ok hT rfl rfl rfl rfl (by omega) hel)⟩) ?_
    repeat (first | refine wk hT rfl rfl ?_ | refine wd hT rfl rfl rfl ?_ | refine wz hT rfl ?_ | refine AWd_nil ?_ | refine AWk_nil ?_ | refine wh hT rfl rfl rfl rfl ?_ | refine wg hT rfl rfl rfl rfl rfl ?_ | refine AW_seq ?_ | refine AW_region ?_ | refine wx mixed ?_ | refine AW_block ?_ | refine AW_skip ?_ | refine AW_exit ?_ | refine AW_ret ?_)
    refine AWd_gop rfl rfl rfl rfl (fun hg => ⟨by first | exact True.intro | exact ⟨hg, True.intro⟩ | exact ⟨hg, hg, True.intro⟩, OpS_of_pure (indexAddr_ok hT rfl rfl rfl rfl (by omega) hel)⟩) ?_
    repeat (first | refine wk hT rfl rfl ?_ | refine wd hT rfl rfl rfl ?_ | refine wz hT rfl ?_ | refine AWd_nil ?_ | refine AWk_nil ?_ | refine wh hT rfl rfl rfl rfl ?_ | refine wg hT rfl rfl rfl rfl rfl ?_ | refine AW_seq ?_ | refine AW_region ?_ | refine wx mixed ?_ | refine AW_block ?_ | refine AW_skip ?_ | refine AW_exit ?_ | refine AW_ret ?_)
    refine AWd_gop rfl rfl rfl rfl (fun hg => ⟨by first | exact True.intro | exact ⟨hg, True.intro⟩ | exact ⟨hg, hg, True.intro⟩, OpS_of_pure (indexAddr_ok hT rfl rfl rfl rfl (by omega) hel)⟩) ?_
    repeat (first | refine wk hT rfl rfl ?_ | refine wd hT rfl rfl rfl ?_ | refine wz hT rfl ?_ | refine AWd_nil ?_ | refine AWk_nil ?_ | refine wh hT rfl rfl rfl rfl ?_ | refine wg hT rfl rfl rfl rfl rfl ?_ | refine AW_seq ?_ | refine AW_region ?_ | refine wx mixed ?_ | refine AW_block ?_ | refine AW_skip ?_ | refine AW_exit ?_ | refine AW_ret ?_)
    refine AWd_gop rfl rfl rfl rfl (fun hg => ⟨by first | exact True.intro | exact ⟨hg, True.intro⟩ | exact ⟨hg, hg, True.intro⟩, OpS_of_pure (indexAddr_ok hT rfl rfl rfl rfl (by omega) hel)⟩) ?_
    repeat (first | refine wk hT rfl rfl ?_ | refine wd hT rfl rfl rfl ?_ | refine wz hT rfl ?_ | refine AWd_nil ?_ | refine AWk_nil ?_ | refine wh hT rfl rfl rfl rfl ?_ | refine wg hT rfl rfl rfl rfl rfl ?_ | refine AW_seq ?_ | refine AW_region ?_ | refine wx mixed ?_ | refine AW_block ?_ | refine AW_skip ?_ | refine AW_exit ?_ | refine AW_ret ?_)
    refine AWd_gop rfl rfl rfl rfl (fun hg => ⟨by first | exact True.intro | exact ⟨hg, True.intro⟩ | exact ⟨hg, hg, True.intro⟩, callS0 rfl rfl hx rfl rfl rfl⟩) ?_
    repeat (first | refine wk hT rfl rfl ?_ | refine wd hT rfl rfl rfl ?_ | refine wz hT rfl ?_ | refine AWd_nil ?_ | refine AWk_nil ?_ | refine wh hT rfl rfl rfl rfl ?_ | refine wg hT rfl rfl rfl rfl rfl ?_ | refine AW_seq ?_ | refine AW_region ?_ | refine wx mixed ?_ | refine AW_block ?_ | refine AW_skip ?_ | refine AW_exit ?_ | refine AW_ret ?_)
    refine AW_condL rfl (fun hf => by simp at hf) (fun _ => ?_)
    repeat (first | refine wk hT rfl rfl ?_ | refine wd hT rfl rfl rfl ?_ | refine wz hT rfl ?_ | refine AWd_nil ?_ | refine AWk_nil ?_ | refine wh hT rfl rfl rfl rfl ?_ | refine wg hT rfl rfl rfl rfl rfl ?_ | refine AW_seq ?_ | refine AW_region ?_ | refine wx mixed ?_ | refine AW_block ?_ | refine AW_skip ?_ | refine AW_exit ?_ | refine AW_ret ?_)
    exact ⟨j + 1, by omega, by omega, ⟨.refl _, .refl _, AV.le.eq (by show AV.d (.int .i64 (IntKind.i64.wrap ((j : Int) + 1))) = _; rw [hwr]), trivial⟩, HLe.refl _⟩
  · repeat (first | refine wk hT rfl rfl ?_ | refine wd hT rfl rfl rfl ?_ | refine wz hT rfl ?_ | refine AWd_nil ?_ | refine AWk_nil ?_ | refine wh hT rfl rfl rfl rfl ?_ | refine wg hT rfl rfl rfl rfl rfl ?_ | refine AW_seq ?_ | refine AW_region ?_ | refine wx mixed ?_ | refine AW_block ?_ | refine AW_skip ?_ | refine AW_exit ?_ | refine AW_ret ?_)
    exact ret_exact rfl (.refl _) rfl rfl rfl rfl ⟨rfl, rfl⟩
end Tdoc
/- The reference: which conditions and policies are valid. -/
set_option linter.unusedVariables false
set_option linter.unusedSimpArgs false
namespace Tdoc
open Go Go.Proofs

def zeroC : Cond → Bool
  | .mk k c v kids => decide (k = 0) && decide (c = 0) && decide (v = 0) && decide (kids.length = 0)

theorem validC_one (d : Nat) (c v : Int) (kids : List Cond) : validC (d + 1) (.mk 2 c v kids) = (decide (c = 0) && decide (v = 0) && decide (kids.length = 1) && !(kids.any fun x => !validC d x)) := by
  rw [validC]
  by_cases hc : c = 0 <;> by_cases hv : v = 0 <;> simp [hc, hv]

end Tdoc
/- The reference: which policies are valid. -/
set_option linter.unusedVariables false
set_option linter.unusedSimpArgs false
namespace Tdoc
open Go Go.Proofs

end Tdoc
/- The reference: what a text means. -/
set_option linter.unusedVariables false
set_option linter.unusedSimpArgs false
namespace Tdoc
open Go Go.Proofs

/-- A cut between two pieces of code that forgets objects. -/
theorem AW_seq_cutC {P : Program} {E : Env} {N : Nat} {τ : Nat → AV} {h : List AObj} {Q : Exit → (Nat → AV) → List AObj → Prop} {x y : Code} {ι : Type} (S : ι → List (Nat × AV)) (H : ι → List AObj) (inv : ι → Prop)
    (hx : AW P E N x (thenA (fun τ' h' => ∃ i junk, inv i ∧ SubL τ' (S i) ∧ HLe h' (H i ++ junk) ∧ E.below (H i).length ∧ lowS (H i).length (S i) = true ∧ lowH (H i).length (H i) = true) Q) τ h) (hy : ∀ i, inv i → AW P E N y Q (look (S i)) (H i)) :
    AW P E N (.seq x y) Q τ h := by
  refine AW_seq (AW_mono hx fun e τ' h' hq => ?_)
  cases e with
  | normal => obtain ⟨i, junk, h1, h3, h4, h5, h6, h7⟩ := hq; exact AW_sub (Rel_cut h5 h3 h6 h4 h7) (hy i h1)
  | _ => exact hq

theorem flatL_small (kind : Int) : ∀ {l : List Cond}, smallCs l → smallCs (flatL kind l)
  | [], _ => trivial
  | a :: l, h => by
    rw [show a :: l = [a] ++ l from rfl, flatL_append, flatL_one]
    exact smallCs_append (flatC_small h.1) (flatL_small kind h.2)

theorem joinR_small {kind : Int} {l : List Cond} (h : smallCs l) (hf : (flatL kind l).length ≤ 1000000000) : smallC (joinR kind l) := by
  unfold joinR
  split
  · exact h.1
  · exact ⟨hf, flatL_small kind h⟩

def PSmall (ws : List Wd) (n : Nat) (part : RS → Cond × RS) : Prop := ∀ s, s.i ≤ ws.length → ws.length - s.i < n → smallC (part s).1

theorem loopR_small {ws : List Wd} {n : Nat} {part : RS → Cond × RS} (hp : POk ws n part) (hs : PSmall ws n part) {w : List UInt8} (hw : w ≠ []) : ∀ (m : Nat) (l : List Cond) (s : RS), ws.length - s.i < n + 1 → smallCs l → smallCs (loopR ws w part m l s).1
  | 0, l, s, hn, hl => hl
  | m + 1, l, s, hn, hl => by
    unfold loopR
    split
    · rename_i hc
      have hlt := peekR_lt (ws := ws) (s := s) (by rw [hc.2]; exact hw)
      have hi : s.inc.i = s.i + 1 := rfl
      obtain ⟨q1, q2, q3⟩ := hp.inv s.inc (by omega) (by omega)
      exact loopR_small hp hs hw m _ _ (by omega) (smallCs_append hl ⟨hs s.inc (by omega) (by omega), trivial⟩)
    · exact hl

theorem seriesR_small {ws : List Wd} {n : Nat} {part : RS → Cond × RS} (hl : ws.length ≤ 1000000) (hn1 : n ≤ 1000001) (hp : POk ws n part) (hs : PSmall ws n part) (kind : Int) {w : List UInt8} (hw : w ≠ []) : PSmall ws n (seriesR ws kind w part) := by
  intro s h hn
  have h1 := LOk.one (kind := kind) hp h hn
  have hlo := h1.lo
  have h2 := loopR_ok hp hw (ws.length + 1) _ _ h1 (by omega)
  have := h2.flat; have := h2.hi
  exact joinR_small (loopR_small hp hs hw _ _ _ (by omega) ⟨hs s h hn, trivial⟩) (by omega)

theorem atomR_small {ws : List Wd} (hl : ws.length ≤ 1000000) : ∀ n, n ≤ 1000001 → PSmall ws n (atomR ws n)
  | 0, _ => fun s _ hn => by omega
  | n + 1, hn1 => by
    have ih := atomR_small hl n (by omega)
    intro s h hn
    have hi : s.inc.i = s.i + 1 := rfl
    unfold atomR
    split
    · exact ⟨by simp, trivial⟩
    · split
      · rename_i hc
        have hlt := peekR_lt (ws := ws) (s := s) (by rw [hc]; decide)
        exact ⟨by simp, ih s.inc (by omega) (by omega), trivial⟩
      · split
        · rename_i hc
          have hlt := peekR_lt (ws := ws) (s := s) (by rw [hc]; decide)
          exact seriesR_small hl (by omega) (conjR_ok ws n) (seriesR_small hl (by omega) (atomR_ok ws n) ih 3 (w := andW) (by decide)) 4 (w := orW) (by decide) s.inc (by omega) (by omega)
        · split
          · exact ⟨by simp, trivial⟩
          · split <;> exact ⟨by simp, trivial⟩

theorem condR'_small {ws : List Wd} (hl : ws.length ≤ 1000000) {n : Nat} (hn : n ≤ 1000001) : PSmall ws n (condR' ws n) :=
  seriesR_small hl hn (conjR_ok ws n) (seriesR_small hl hn (atomR_ok ws n) (atomR_small hl n hn) 3 (w := andW) (by decide)) 4 (w := orW) (by decide)

/-- One rule, its verdict being a word. -/
def ruleR (ws : List Wd) (s : RS) : Rule × RS :=
  if peekR ws s.inc = ifW then (.mk (sIdx vds (peekR ws s) + 1) false (condR' ws (ws.length + 1) s.inc.inc).1, takeR ws (condR' ws (ws.length + 1) s.inc.inc).2 scW)
  else (.mk (sIdx vds (peekR ws s) + 1) true (.mk 0 0 0 []), takeR ws s.inc scW)

def rulesR (ws : List Wd) : Nat → List Rule → RS → List Rule × RS
  | 0, l, s => (l, s)
  | m + 1, l, s => if s.bad < 0 ∧ s.i < ws.length then (if sIdx vds (peekR ws s) + 1 = 0 then (l, failR ws s) else rulesR ws m (l ++ [(ruleR ws s).1]) (ruleR ws s).2) else (l, s)

def endR (text : List UInt8) (bro : Int) : Int := if 0 ≤ bro then bro else text.length
def parseQR (text : List UInt8) (wb : List Wd × Int) : List Rule × RS := rulesR wb.1 (wb.1.length + 1) [] ⟨0, endR text wb.2, -1⟩
def badR (wb : List Wd × Int) (s : RS) : Int := if s.bad < 0 then wb.2 else s.bad
def parseR (text : List UInt8) : List Rule × Int × Int :=
  if text.length > 4096 then ([], 0, 72)
  else if 0 ≤ badR (wordsR text (text.length + 1) 0 []) (parseQR text (wordsR text (text.length + 1) 0 [])).2 then ([], badR (wordsR text (text.length + 1) 0 []) (parseQR text (wordsR text (text.length + 1) 0 [])).2, 71)
  else if validPol (parseQR text (wordsR text (text.length + 1) 0 [])).1 ≠ 0 then ([], 0, 72) else ((parseQR text (wordsR text (text.length + 1) 0 [])).1, 0, 0)

theorem wordsR_len (text : List UInt8) : ∀ (m i : Nat) (out : List Wd), out.length ≤ i → i ≤ text.length → (wordsR text m i out).1.length ≤ text.length
  | 0, i, out, h1, h2 => by simp only [wordsR]; omega
  | m + 1, i, out, h1, h2 => by
    rw [wordsR]
    have hl := congrArg List.length (rfl : text.drop i = text.drop i)
    split
    · simp only; omega
    · rename_i c r hd
      have hlen : (c :: r).length = text.length - i := by rw [← hd]; simp
      have hc := cmt_le (c :: r); have hw := lets_le (c :: r)
      rw [hlen] at hc hw
      have hpos : 0 < text.length - i := by rw [← hlen]; simp
      split
      · exact wordsR_len text m _ _ (by omega) (by omega)
      · split
        · exact wordsR_len text m _ _ (by omega) (by omega)
        · split
          · exact wordsR_len text m _ _ (by simp; omega) (by omega)
          · split
            · rename_i hlow
              have : 0 < lets (c :: r) := by rw [lets, if_pos hlow]; omega
              exact wordsR_len text m _ _ (by simp; omega) (by omega)
            · simp only; omega

theorem ruleR_ok {ws : List Wd} (hl : ws.length ≤ 1000000) {s : RS} (h : s.i < ws.length) :
    s.i < (ruleR ws s).2.i ∧ (ruleR ws s).2.i ≤ 3000000 ∧ smallC (condR (ruleR ws s).1) := by
  have e1 : ∀ x : RS, x.inc.i = x.i + 1 := fun _ => rfl
  unfold ruleR
  split
  · rename_i hc
    have hlt := peekR_lt (ws := ws) (s := s.inc) (by rw [hc]; decide)
    rw [e1] at hlt
    obtain ⟨q1, q2, q3⟩ := (condR'_ok ws (ws.length + 1)).inv s.inc.inc (by simp only [e1]; omega) (by simp only [e1]; omega)
    simp only [e1] at q1
    exact ⟨by simp only [takeR_i]; omega, by simp only [takeR_i]; omega, condR'_small hl (by omega) s.inc.inc (by simp only [e1]; omega) (by simp only [e1]; omega)⟩
  · exact ⟨by simp only [takeR_i, e1]; omega, by simp only [takeR_i, e1]; omega, by simp, trivial⟩
end Tdoc
/- The reference: Parse. -/
set_option linter.unusedVariables false
set_option linter.unusedSimpArgs false
namespace Tdoc
open Go Go.Proofs

theorem AW_cutA {P : Program} {E : Env} {N : Nat} {τ : Nat → AV} {h : List AObj} {Q : Exit → (Nat → AV) → List AObj → Prop} {c y : Code} (S : List (Nat × AV)) (H : List AObj)
    (hx : AW P E N c (thenA (fun τ' h' => SubL τ' S ∧ HLe h' H) Q) τ h) (hy : AW P E N y Q (look S) H) : AW P E N c (thenA (fun τ h => AW P E N y Q τ h) Q) τ h := by
  refine AW_mono hx fun e τ' h' hq => ?_
  cases e with
  | normal => exact AW_subL hq.1 hq.2 hy
  | _ => exact hq

end Tdoc
/- Package policy: results of checks, and the first that a condition names. -/
set_option linter.unusedVariables false
set_option linter.unusedSimpArgs false
namespace Tdoc
open Go Go.Proofs

abbrev Res := Int × Int
def encRe (r : Res) : List Dat := [.int .i64 r.1, .int .i64 r.2]
def encRes (l : List Res) : List (List Dat) := l.map encRe
theorem encRes_length (l : List Res) : (encRes l).length = l.length := by simp [encRes]
def reAV (r : Res) : AV := .agg ((encRe r).map .d)

/-- The index of a check's first result, or -1. -/
def resIdx (ch : Int) (l : List Res) : Int := fIdx (fun r => r.1 == ch) l

set_option maxRecDepth 100000 in
theorem forced1_spec (k c v : Int) (kids : List Cond) (r : Res) : Spec Try.prog 46 ([] ++ ([reAV r] ++ [.ptr 0 0])) [.row ((encC (.mk k c v kids)).map .d)] (fun a h' => a = .d (.bool (r.1 == c)) ∧ h' = [.row ((encC (.mk k c v kids)).map .d)]) := by
  obtain ⟨a, b⟩ := r
  refine Spec_of_body hT Try.func46 rfl rfl rfl rfl ?_
  intro E hE
  repeat (first | refine wk hT rfl rfl ?_ | refine wd hT rfl rfl rfl ?_ | refine wz hT rfl ?_ | refine AWd_nil ?_ | refine AWk_nil ?_ | refine wh hT rfl rfl rfl rfl ?_ | refine wg hT rfl rfl rfl rfl rfl ?_ | refine AW_seq ?_ | refine AW_region ?_ | refine wx mixed ?_ | refine AW_block ?_ | refine AW_skip ?_ | refine AW_exit ?_ | refine AW_ret ?_)
  exact ret_exact rfl (.refl _) rfl rfl rfl rfl ⟨rfl, rfl⟩

set_option maxRecDepth 100000 in
theorem holds2_spec (k c v : Int) (kids : List Cond) (r : Res) : Spec Try.prog 44 ([] ++ ([reAV r] ++ [.ptr 0 0])) [.row ((encC (.mk k c v kids)).map .d)] (fun a h' => a = .d (.bool (r.1 == c)) ∧ h' = [.row ((encC (.mk k c v kids)).map .d)]) := by
  obtain ⟨a, b⟩ := r
  refine Spec_of_body hT Try.func44 rfl rfl rfl rfl ?_
  intro E hE
  repeat (first | refine wk hT rfl rfl ?_ | refine wd hT rfl rfl rfl ?_ | refine wz hT rfl ?_ | refine AWd_nil ?_ | refine AWk_nil ?_ | refine wh hT rfl rfl rfl rfl ?_ | refine wg hT rfl rfl rfl rfl rfl ?_ | refine AW_seq ?_ | refine AW_region ?_ | refine wx mixed ?_ | refine AW_block ?_ | refine AW_skip ?_ | refine AW_exit ?_ | refine AW_ret ?_)
  exact ret_exact rfl (.refl _) rfl rfl rfl rfl ⟨rfl, rfl⟩

set_option maxRecDepth 100000 in
theorem IndexFuncR_spec {l : List Res} {g : FuncId} {k c v : Int} {kids : List Cond}
    (hp : ∀ r : Res, Spec Try.prog g ([] ++ ([reAV r] ++ [.ptr 0 0])) [.row ((encC (.mk k c v kids)).map .d)] (fun a h' => a = .d (.bool (r.1 == c)) ∧ h' = [.row ((encC (.mk k c v kids)).map .d)])) (hl : l.length ≤ 1000000000) :
    Spec Try.prog 43 [.d (.sl 2 (encRes l)), .fn (.func g) [] [.ptr 0 0]] [.row ((encC (.mk k c v kids)).map .d)] (fun r h' => r = .d (.int .i64 (resIdx c l)) ∧ h' = [.row ((encC (.mk k c v kids)).map .d)]) := by
  refine Spec_of_body hT Try.func43 rfl rfl rfl rfl ?_
  intro E hE
  have hlen := encRes_length l
  repeat (first | refine wk hT rfl rfl ?_ | refine wd hT rfl rfl rfl ?_ | refine wz hT rfl ?_ | refine AWd_nil ?_ | refine AWk_nil ?_ | refine wh hT rfl rfl rfl rfl ?_ | refine wg hT rfl rfl rfl rfl rfl ?_ | refine AW_seq ?_ | refine AW_region ?_ | refine wx mixed ?_ | refine AW_block ?_ | refine AW_skip ?_ | refine AW_exit ?_ | refine AW_ret ?_)
  refine AW_loopL (ι := Nat) (fun j => [(0, .d (.sl 2 (encRes l))), (1, .fn (.func g) [] [.ptr 0 0]), (7, .d (.int .i64 (encRes l).length)), (8, .d (.int .i64 j))]) (fun _ => [.row ((encC (.mk k c v kids)).map .d)]) (fun j => j ≤ l.length ∧ ∀ i, (hi : i < j) → (hi2 : i < l.length) → (l[i].1 == c) = false) (fun j => l.length - j) 0
    ⟨by omega, fun j hj => by omega⟩ ⟨.refl _, .refl _, .refl _, .refl _, trivial⟩ (HLe.refl _) ?_
  intro j ⟨hj, hb⟩
  repeat (first | refine wk hT rfl rfl ?_ | refine wd hT rfl rfl rfl ?_ | refine wz hT rfl ?_ | refine AWd_nil ?_ | refine AWk_nil ?_ | refine wh hT rfl rfl rfl rfl ?_ | refine wg hT rfl rfl rfl rfl rfl ?_ | refine AW_seq ?_ | refine AW_region ?_ | refine wx mixed ?_ | refine AW_block ?_ | refine AW_skip ?_ | refine AW_exit ?_ | refine AW_ret ?_)
  refine AW_condL rfl (fun h1' => ?_) (fun h1' => ?_)
  · have hlt : j < l.length := by rw [hlen] at h1'; simpa using h1'
    have hel : (encRes l)[((j : Int)).toNat]? = some (encRe l[j]) := by simp [encRes, hlt]
    have hpk := hp l[j]
    generalize hc : l[j] = r at hel hpk
    obtain ⟨ra, rb⟩ := r
    repeat (first | refine wk hT rfl rfl ?_ | refine wd hT rfl rfl rfl ?_ | refine wz hT rfl ?_ | refine AWd_nil ?_ | refine AWk_nil ?_ | refine wh hT rfl rfl rfl rfl ?_ | refine wg hT rfl rfl rfl rfl rfl ?_ | refine AW_seq ?_ | refine AW_region ?_ | refine wx mixed ?_ | refine AW_block ?_ | refine AW_skip ?_ | refine AW_exit ?_ | refine AW_ret ?_)
    refine AWk_op (OpS_of_pure (indexAddr_ok hT rfl rfl rfl rfl (by omega) hel)) rfl ?_
    repeat (first | refine wk hT rfl rfl ?_ | refine wd hT rfl rfl rfl ?_ | refine wz hT rfl ?_ | refine AWd_nil ?_ | refine AWk_nil ?_ | refine wh hT rfl rfl rfl rfl ?_ | refine wg hT rfl rfl rfl rfl rfl ?_ | refine AW_seq ?_ | refine AW_region ?_ | refine wx mixed ?_ | refine AW_block ?_ | refine AW_skip ?_ | refine AW_exit ?_ | refine AW_ret ?_)
    refine AWk_op (callS1 rfl rfl hpk [0] (by decide) rfl rfl rfl rfl rfl rfl rfl) rfl ?_
    repeat (first | refine wk hT rfl rfl ?_ | refine wd hT rfl rfl rfl ?_ | refine wz hT rfl ?_ | refine AWd_nil ?_ | refine AWk_nil ?_ | refine wh hT rfl rfl rfl rfl ?_ | refine wg hT rfl rfl rfl rfl rfl ?_ | refine AW_seq ?_ | refine AW_region ?_ | refine wx mixed ?_ | refine AW_block ?_ | refine AW_skip ?_ | refine AW_exit ?_ | refine AW_ret ?_)
    refine AW_condL rfl (fun h2' => ?_) (fun h2' => ?_)
    · repeat (first | refine wk hT rfl rfl ?_ | refine wd hT rfl rfl rfl ?_ | refine wz hT rfl ?_ | refine AWd_nil ?_ | refine AWk_nil ?_ | refine wh hT rfl rfl rfl rfl ?_ | refine wg hT rfl rfl rfl rfl rfl ?_ | refine AW_seq ?_ | refine AW_region ?_ | refine wx mixed ?_ | refine AW_block ?_ | refine AW_skip ?_ | refine AW_exit ?_ | refine AW_ret ?_)
      refine ret_exact rfl (.refl _) rfl rfl rfl rfl ⟨?_, rfl⟩
      show AV.d (.int .i64 (j : Int)) = _
      rw [resIdx, fIdx_at hlt (by rw [hc]; exact h2') (fun i hi hi2 => hb i hi hi2)]
    · repeat (first | refine wk hT rfl rfl ?_ | refine wd hT rfl rfl rfl ?_ | refine wz hT rfl ?_ | refine AWd_nil ?_ | refine AWk_nil ?_ | refine wh hT rfl rfl rfl rfl ?_ | refine wg hT rfl rfl rfl rfl rfl ?_ | refine AW_seq ?_ | refine AW_region ?_ | refine wx mixed ?_ | refine AW_block ?_ | refine AW_skip ?_ | refine AW_exit ?_ | refine AW_ret ?_)
      refine ⟨j + 1, ⟨by omega, fun i hi hi2 => ?_⟩, by omega, ⟨.refl _, .refl _, .refl _, AV.le.eq ?_, trivial⟩, HLe.refl _⟩
      · by_cases hij : i = j
        · subst hij; rw [hc]; exact h2'
        · exact hb i (by omega) hi2
      · show AV.d (.int .i64 (IntKind.i64.wrap ((j : Int) + 1))) = _
        rw [wrap_id (by omega)]; rfl
  · have hge : j = l.length := by rw [hlen] at h1'; simp at h1'; omega
    repeat (first | refine wk hT rfl rfl ?_ | refine wd hT rfl rfl rfl ?_ | refine wz hT rfl ?_ | refine AWd_nil ?_ | refine AWk_nil ?_ | refine wh hT rfl rfl rfl rfl ?_ | refine wg hT rfl rfl rfl rfl rfl ?_ | refine AW_seq ?_ | refine AW_region ?_ | refine wx mixed ?_ | refine AW_block ?_ | refine AW_skip ?_ | refine AW_exit ?_ | refine AW_ret ?_)
    refine ret_exact rfl (.refl _) rfl rfl rfl rfl ⟨?_, rfl⟩
    show AV.d (.int .i64 (-1)) = _
    rw [resIdx, fIdx_none (fun i hi => hb i (by omega) hi)]

/-- What results say: the first result of a check, if any. -/
def valOf (ch : Int) (l : List Res) : Option Int := (l.find? fun r => r.1 == ch).map (·.2)

theorem resIdx_some {ch : Int} {l : List Res} {x : Int} (h : valOf ch l = some x) : ∃ i : Nat, ∃ h : i < l.length, resIdx ch l = i ∧ l[i].2 = x := by
  unfold valOf at h
  cases hf : l.find? fun r => r.1 == ch with
  | none => rw [hf] at h; cases h
  | some r =>
    rw [hf] at h
    obtain ⟨h1, i, hi, h2, h3⟩ := List.find?_eq_some_iff_getElem.1 hf
    refine ⟨i, hi, ?_, by rw [h2]; simpa using h⟩
    exact fIdx_at hi (by rw [h2]; exact h1) (fun j hj hj2 => by simpa using h3 j hj)
theorem resIdx_none {ch : Int} {l : List Res} (h : valOf ch l = none) : resIdx ch l = -1 := by
  unfold valOf at h
  rw [Option.map_eq_none_iff, List.find?_eq_none] at h
  exact fIdx_none fun j hj => by simpa using h l[j] (List.getElem_mem hj)
end Tdoc
/- Package policy: what is certain about a condition. -/
set_option linter.unusedVariables false
set_option linter.unusedSimpArgs false
namespace Tdoc
open Go Go.Proofs

def foldF (one : Int) : Int → List Int → Int
  | all, [] => all
  | all, f :: r => if f = one then one else foldF one (if f = 0 then 0 else all) r

def isF (v : Int) : Option Int → Int
  | none => 0
  | some x => if x = v then 1 else 2
def notF : List Int → Int
  | [] => 0
  | f :: _ => Int.tmod (3 - f) 3

def forcedF (l : List Res) : Nat → Cond → Int
  | 0, _ => 0
  | d + 1, .mk k c v kids =>
    if k = 1 then isF v (valOf c l) else if k = 2 then notF (kids.map fun x => forcedF l d x)
    else foldF (if k = 4 then 1 else 2) (if k = 4 then 2 else 1) (kids.map fun x => forcedF l d x)

theorem foldF_range {one : Int} (h1 : 0 ≤ one ∧ one ≤ 2) : ∀ (r : List Int) (all : Int), 0 ≤ all ∧ all ≤ 2 → 0 ≤ foldF one all r ∧ foldF one all r ≤ 2
  | [], all, h => h
  | f :: r, all, h => by
    rw [foldF]
    split
    · exact h1
    · exact foldF_range h1 r _ (by split <;> omega)

theorem forcedF_range (l : List Res) : ∀ (d : Nat) (c : Cond), 0 ≤ forcedF l d c ∧ forcedF l d c ≤ 2
  | 0, c => by simp [forcedF]
  | d + 1, .mk k c v kids => by
    rw [forcedF]
    split
    · cases valOf c l with
      | none => simp [isF]
      | some x => simp only [isF]; split <;> omega
    · split
      · cases kids with
        | nil => simp [notF]
        | cons x rest =>
          have := forcedF_range l d x
          simp only [notF, List.map_cons]
          rw [Int.tmod_eq_emod_of_nonneg (by omega)]
          omega
      · exact foldF_range (by split <;> omega) _ _ (by split <;> omega)

set_option maxHeartbeats 8000000 in
set_option maxRecDepth 100000 in
theorem forced_spec (l : List Res) (hl : l.length ≤ 1000000) : ∀ (d : Nat) (c : Cond), validC d c = true → smallC c → Spec Try.prog 26 [cAV c, .d (.sl 2 (encRes l))] [] (fun r h' => r = .d (.int .i64 (forcedF l d c)) ∧ h' = [])
  | 0, c, hv, _ => by simp [validC] at hv
  | d + 1, .mk k c v kids, hv, hs => by
    have hlen := encCs_length kids
    have hs1 := hs.1
    have ih : ∀ x, x ∈ kids → validC d x = true → Spec Try.prog 26 [cAV x, .d (.sl 2 (encRes l))] [] (fun r h' => r = .d (.int .i64 (forcedF l d x)) ∧ h' = []) := fun x hx hvx => forced_spec l hl d x hvx (smallCs_at hs.2 x hx)
    have hix := IndexFuncR_spec (l := l) (g := 46) (k := k) (c := c) (v := v) (kids := kids) (fun r => forced1_spec k c v kids r) (by omega)
    refine Spec_of_body hT Try.func26 rfl rfl rfl rfl ?_
    intro E hE
    rw [forcedF]
    repeat (first | refine wk hT rfl rfl ?_ | refine wd hT rfl rfl rfl ?_ | refine wz hT rfl ?_ | refine AWd_nil ?_ | refine AWk_nil ?_ | refine wh hT rfl rfl rfl rfl ?_ | refine wg hT rfl rfl rfl rfl rfl ?_ | refine AW_seq ?_ | refine AW_region ?_ | refine wx mixed ?_ | refine AW_block ?_ | refine AW_skip ?_ | refine AW_exit ?_ | refine AW_ret ?_)
    refine AW_condL rfl (fun hk => ?_) (fun hk => ?_)
    · have hk' : k = 1 := by simpa using hk
      rw [if_pos hk']
      repeat (first | refine wk hT rfl rfl ?_ | refine wd hT rfl rfl rfl ?_ | refine wz hT rfl ?_ | refine AWd_nil ?_ | refine AWk_nil ?_ | refine wh hT rfl rfl rfl rfl ?_ | refine wg hT rfl rfl rfl rfl rfl ?_ | refine AW_seq ?_ | refine AW_region ?_ | refine wx mixed ?_ | refine AW_block ?_ | refine AW_skip ?_ | refine AW_exit ?_ | refine AW_ret ?_)
      refine AWk_op (callS1 rfl rfl hix [0] (by decide) rfl rfl rfl rfl rfl rfl rfl) rfl ?_
      repeat (first | refine wk hT rfl rfl ?_ | refine wd hT rfl rfl rfl ?_ | refine wz hT rfl ?_ | refine AWd_nil ?_ | refine AWk_nil ?_ | refine wh hT rfl rfl rfl rfl ?_ | refine wg hT rfl rfl rfl rfl rfl ?_ | refine AW_seq ?_ | refine AW_region ?_ | refine wx mixed ?_ | refine AW_block ?_ | refine AW_skip ?_ | refine AW_exit ?_ | refine AW_ret ?_)
      cases hvo : valOf c l with
      | none =>
        rw [resIdx_none hvo]
        refine AW_condL rfl (fun _ => ?_) (fun hf => by simp at hf)
        repeat (first | refine wk hT rfl rfl ?_ | refine wd hT rfl rfl rfl ?_ | refine wz hT rfl ?_ | refine AWd_nil ?_ | refine AWk_nil ?_ | refine wh hT rfl rfl rfl rfl ?_ | refine wg hT rfl rfl rfl rfl rfl ?_ | refine AW_seq ?_ | refine AW_region ?_ | refine wx mixed ?_ | refine AW_block ?_ | refine AW_skip ?_ | refine AW_exit ?_ | refine AW_ret ?_)
        exact ret_exact rfl (.refl _) rfl rfl rfl rfl ⟨rfl, rfl⟩
      | some x =>
        obtain ⟨i, hi, h1, h2⟩ := resIdx_some hvo
        rw [h1]
        have hel : (encRes l)[((i : Int)).toNat]? = some [.int .i64 l[i].1, .int .i64 l[i].2] := by simp [encRes, hi, encRe]
        refine AW_condL rfl (fun hf => by simp at hf; omega) (fun _ => ?_)
        repeat (first | refine wk hT rfl rfl ?_ | refine wd hT rfl rfl rfl ?_ | refine wz hT rfl ?_ | refine AWd_nil ?_ | refine AWk_nil ?_ | refine wh hT rfl rfl rfl rfl ?_ | refine wg hT rfl rfl rfl rfl rfl ?_ | refine AW_seq ?_ | refine AW_region ?_ | refine wx mixed ?_ | refine AW_block ?_ | refine AW_skip ?_ | refine AW_exit ?_ | refine AW_ret ?_)
        refine AWd_op (OpS_of_pure (indexAddr_ok hT rfl rfl rfl rfl (by omega) hel)) rfl rfl ?_
        repeat (first | refine wk hT rfl rfl ?_ | refine wd hT rfl rfl rfl ?_ | refine wz hT rfl ?_ | refine AWd_nil ?_ | refine AWk_nil ?_ | refine wh hT rfl rfl rfl rfl ?_ | refine wg hT rfl rfl rfl rfl rfl ?_ | refine AW_seq ?_ | refine AW_region ?_ | refine wx mixed ?_ | refine AW_block ?_ | refine AW_skip ?_ | refine AW_exit ?_ | refine AW_ret ?_)
        refine AW_condL rfl (fun h3 => ?_) (fun h3 => ?_)
        · have h3' : x = v := by rw [h2] at h3; simpa using h3
          repeat (first | refine wk hT rfl rfl ?_ | refine wd hT rfl rfl rfl ?_ | refine wz hT rfl ?_ | refine AWd_nil ?_ | refine AWk_nil ?_ | refine wh hT rfl rfl rfl rfl ?_ | refine wg hT rfl rfl rfl rfl rfl ?_ | refine AW_seq ?_ | refine AW_region ?_ | refine wx mixed ?_ | refine AW_block ?_ | refine AW_skip ?_ | refine AW_exit ?_ | refine AW_ret ?_)
          exact ret_exact rfl (.refl _) rfl rfl rfl rfl ⟨by rw [isF, if_pos h3']; rfl, rfl⟩
        · have h3' : ¬ x = v := by rw [h2] at h3; simpa using h3
          repeat (first | refine wk hT rfl rfl ?_ | refine wd hT rfl rfl rfl ?_ | refine wz hT rfl ?_ | refine AWd_nil ?_ | refine AWk_nil ?_ | refine wh hT rfl rfl rfl rfl ?_ | refine wg hT rfl rfl rfl rfl rfl ?_ | refine AW_seq ?_ | refine AW_region ?_ | refine wx mixed ?_ | refine AW_block ?_ | refine AW_skip ?_ | refine AW_exit ?_ | refine AW_ret ?_)
          exact ret_exact rfl (.refl _) rfl rfl rfl rfl ⟨by rw [isF, if_neg h3']; rfl, rfl⟩
    · have hk1 : ¬ k = 1 := by simpa using hk
      rw [if_neg hk1]
      rw [validC, if_neg hk1] at hv
      have hcv : ¬ (c ≠ 0 ∨ v ≠ 0) := by intro hh; rw [if_pos hh] at hv; cases hv
      rw [if_neg hcv] at hv
      repeat (first | refine wk hT rfl rfl ?_ | refine wd hT rfl rfl rfl ?_ | refine wz hT rfl ?_ | refine AWd_nil ?_ | refine AWk_nil ?_ | refine wh hT rfl rfl rfl rfl ?_ | refine wg hT rfl rfl rfl rfl rfl ?_ | refine AW_seq ?_ | refine AW_region ?_ | refine wx mixed ?_ | refine AW_block ?_ | refine AW_skip ?_ | refine AW_exit ?_ | refine AW_ret ?_)
      refine AW_condL rfl (fun hk2 => ?_) (fun hk2 => ?_)
      · have hk2' : k = 2 := by simpa using hk2
        rw [if_pos hk2'] at hv ⊢
        cases kids with
        | nil => simp at hv
        | cons x rest =>
          have hvx : validC d x = true := by
            rw [Bool.and_eq_true] at hv
            have h9 := hv.2
            simp at h9
            exact h9.1
          have hx := ih x List.mem_cons_self hvx
          have hr := forcedF_range l d x
          have hel : (encCs (x :: rest))[((0 : Int)).toNat]? = some (encC x) := by simp [encCs]
          rw [List.map_cons, notF]
          generalize forcedF l d x = f at hx hr
          obtain ⟨xk, xc, xv, xkids⟩ := x
          repeat (first | refine wk hT rfl rfl ?_ | refine wd hT rfl rfl rfl ?_ | refine wz hT rfl ?_ | refine AWd_nil ?_ | refine AWk_nil ?_ | refine wh hT rfl rfl rfl rfl ?_ | refine wg hT rfl rfl rfl rfl rfl ?_ | refine AW_seq ?_ | refine AW_region ?_ | refine wx mixed ?_ | refine AW_block ?_ | refine AW_skip ?_ | refine AW_exit ?_ | refine AW_ret ?_)
          refine AWk_op (OpS_of_pure (indexAddr_ok hT rfl rfl rfl rfl (by decide) hel)) rfl ?_
          repeat (first | refine wk hT rfl rfl ?_ | refine wd hT rfl rfl rfl ?_ | refine wz hT rfl ?_ | refine AWd_nil ?_ | refine AWk_nil ?_ | refine wh hT rfl rfl rfl rfl ?_ | refine wg hT rfl rfl rfl rfl rfl ?_ | refine AW_seq ?_ | refine AW_region ?_ | refine wx mixed ?_ | refine AW_block ?_ | refine AW_skip ?_ | refine AW_exit ?_ | refine AW_ret ?_)
          refine AWk_op (callS0 rfl rfl hx rfl rfl rfl) rfl ?_
          repeat (first | refine wk hT rfl rfl ?_ | refine wd hT rfl rfl rfl ?_ | refine wz hT rfl ?_ | refine AWd_nil ?_ | refine AWk_nil ?_ | refine wh hT rfl rfl rfl rfl ?_ | refine wg hT rfl rfl rfl rfl rfl ?_ | refine AW_seq ?_ | refine AW_region ?_ | refine wx mixed ?_ | refine AW_block ?_ | refine AW_skip ?_ | refine AW_exit ?_ | refine AW_ret ?_)
          rcases (by omega : f = 0 ∨ f = 1 ∨ f = 2) with rfl | rfl | rfl <;> exact ret_exact rfl (.refl _) rfl rfl rfl rfl ⟨rfl, rfl⟩
      · have hk2' : ¬ k = 2 := by simpa using hk2
        rw [if_neg hk2'] at hv ⊢
        have hk34 : k = 3 ∨ k = 4 := by
          by_cases hh : k = 3 ∨ k = 4
          · exact hh
          · rw [if_neg hh] at hv; cases hv
        rw [if_pos hk34] at hv
        have hall : ∀ x, x ∈ kids → validC d x = true := by
          rw [Bool.and_eq_true] at hv
          have h9 := hv.2
          simpa using h9
        repeat (first | refine wk hT rfl rfl ?_ | refine wd hT rfl rfl rfl ?_ | refine wz hT rfl ?_ | refine AWd_nil ?_ | refine AWk_nil ?_ | refine wh hT rfl rfl rfl rfl ?_ | refine wg hT rfl rfl rfl rfl rfl ?_ | refine AW_seq ?_ | refine AW_region ?_ | refine wx mixed ?_ | refine AW_block ?_ | refine AW_skip ?_ | refine AW_exit ?_ | refine AW_ret ?_)
        refine AW_cutA [(1, .d (.sl 2 (encRes l))), (2, .ptr 0 0), (6, .d (.int .i64 (if k = 4 then 1 else 2))), (7, .d (.int .i64 (if k = 4 then 2 else 1)))] [.row [.d (.int .i64 k), .d (.int .i64 c), .d (.int .i64 v), .d (.sl 4 (encCs kids))]] ?_ ?_
        · refine AW_condL rfl (fun h4 => ?_) (fun h4 => ?_)
          · have h4' : k = 4 := by simpa using h4
            repeat (first | refine wk hT rfl rfl ?_ | refine wd hT rfl rfl rfl ?_ | refine wz hT rfl ?_ | refine AWd_nil ?_ | refine AWk_nil ?_ | refine wh hT rfl rfl rfl rfl ?_ | refine wg hT rfl rfl rfl rfl rfl ?_ | refine AW_seq ?_ | refine AW_region ?_ | refine wx mixed ?_ | refine AW_block ?_ | refine AW_skip ?_ | refine AW_exit ?_ | refine AW_ret ?_)
            exact ⟨⟨.refl _, .refl _, AV.le.eq (by rw [if_pos h4']; rfl), AV.le.eq (by rw [if_pos h4']; rfl), trivial⟩, HLe.refl _⟩
          · have h4' : ¬ k = 4 := by simpa using h4
            repeat (first | refine AW_exit ?_ | refine AW_skip ?_)
            exact ⟨⟨.refl _, .refl _, AV.le.eq (by rw [if_neg h4']; rfl), AV.le.eq (by rw [if_neg h4']; rfl), trivial⟩, HLe.refl _⟩
        · generalize (if k = 4 then (1 : Int) else 2) = one
          generalize (if k = 4 then (2 : Int) else 1) = all
          generalize hfin : foldF one all (kids.map fun x => forcedF l d x) = fin
          repeat (first | refine wk hT rfl rfl ?_ | refine wd hT rfl rfl rfl ?_ | refine wz hT rfl ?_ | refine AWd_nil ?_ | refine AWk_nil ?_ | refine wh hT rfl rfl rfl rfl ?_ | refine wg hT rfl rfl rfl rfl rfl ?_ | refine AW_seq ?_ | refine AW_region ?_ | refine wx mixed ?_ | refine AW_block ?_ | refine AW_skip ?_ | refine AW_exit ?_ | refine AW_ret ?_)
          refine AW_loopC (ι := Nat × Int) (fun x => [(1, .d (.sl 2 (encRes l))), (2, .ptr 0 0), (6, .d (.int .i64 one)), (7, .d (.int .i64 x.2)), (44, .d (.sl 4 (encCs kids))), (45, .d (.int .i64 (encCs kids).length)), (46, .d (.int .i64 x.1))])
            (fun _ => [.row [.d (.int .i64 k), .d (.int .i64 c), .d (.int .i64 v), .d (.sl 4 (encCs kids))]])
            (fun x => x.1 ≤ kids.length ∧ foldF one x.2 ((kids.drop x.1).map fun y => forcedF l d y) = fin) (fun x => kids.length - x.1) (0, all) ⟨by simp, hfin⟩
            ⟨.refl _, .refl _, .refl _, .refl _, .refl _, .refl _, .refl _, trivial⟩ (HLe.refl _) ?_
          rintro ⟨j, al⟩ ⟨hj, hf⟩
          simp only at hj hf ⊢
          repeat (first | refine wk hT rfl rfl ?_ | refine wd hT rfl rfl rfl ?_ | refine wz hT rfl ?_ | refine AWd_nil ?_ | refine AWk_nil ?_ | refine wh hT rfl rfl rfl rfl ?_ | refine wg hT rfl rfl rfl rfl rfl ?_ | refine AW_seq ?_ | refine AW_region ?_ | refine wx mixed ?_ | refine AW_block ?_ | refine AW_skip ?_ | refine AW_exit ?_ | refine AW_ret ?_)
          refine AW_condL rfl (fun h5 => ?_) (fun h5 => ?_)
          · have hlt : j < kids.length := by rw [hlen] at h5; simpa using h5
            have hel : (encCs kids)[((j : Int)).toNat]? = some (encC kids[j]) := by simp [encCs_eq, hlt]
            have hmem := List.getElem_mem hlt
            have hx := ih kids[j] hmem (hall kids[j] hmem)
            have hd : kids.drop j = kids[j] :: kids.drop (j + 1) := by simp
            have hwr : IntKind.i64.wrap ((j : Int) + 1) = ((j + 1 : Nat) : Int) := by rw [wrap_id (by omega)]; simp
            rw [hd, List.map_cons, foldF] at hf
            generalize forcedF l d kids[j] = f at hx hf
            generalize kids[j] = x at hel hx
            obtain ⟨xk, xc, xv, xkids⟩ := x
            repeat (first | refine wk hT rfl rfl ?_ | refine wd hT rfl rfl rfl ?_ | refine wz hT rfl ?_ | refine AWd_nil ?_ | refine AWk_nil ?_ | refine wh hT rfl rfl rfl rfl ?_ | refine wg hT rfl rfl rfl rfl rfl ?_ | refine AW_seq ?_ | refine AW_region ?_ | refine wx mixed ?_ | refine AW_block ?_ | refine AW_skip ?_ | refine AW_exit ?_ | refine AW_ret ?_)
            refine AWk_op (OpS_of_pure (indexAddr_ok hT rfl rfl rfl rfl (by omega) hel)) rfl ?_
            repeat (first | refine wk hT rfl rfl ?_ | refine wd hT rfl rfl rfl ?_ | refine wz hT rfl ?_ | refine AWd_nil ?_ | refine AWk_nil ?_ | refine wh hT rfl rfl rfl rfl ?_ | refine wg hT rfl rfl rfl rfl rfl ?_ | refine AW_seq ?_ | refine AW_region ?_ | refine wx mixed ?_ | refine AW_block ?_ | refine AW_skip ?_ | refine AW_exit ?_ | refine AW_ret ?_)
            refine AWk_op (callS0 rfl rfl hx rfl rfl rfl) rfl ?_
            repeat (first | refine wk hT rfl rfl ?_ | refine wd hT rfl rfl rfl ?_ | refine wz hT rfl ?_ | refine AWd_nil ?_ | refine AWk_nil ?_ | refine wh hT rfl rfl rfl rfl ?_ | refine wg hT rfl rfl rfl rfl rfl ?_ | refine AW_seq ?_ | refine AW_region ?_ | refine wx mixed ?_ | refine AW_block ?_ | refine AW_skip ?_ | refine AW_exit ?_ | refine AW_ret ?_)
            refine AW_condL rfl (fun h6 => ?_) (fun h6 => ?_)
            · have h6' : f = one := by simpa using h6
              rw [if_pos h6'] at hf
              repeat (first | refine wk hT rfl rfl ?_ | refine wd hT rfl rfl rfl ?_ | refine wz hT rfl ?_ | refine AWd_nil ?_ | refine AWk_nil ?_ | refine wh hT rfl rfl rfl rfl ?_ | refine wg hT rfl rfl rfl rfl rfl ?_ | refine AW_seq ?_ | refine AW_region ?_ | refine wx mixed ?_ | refine AW_block ?_ | refine AW_skip ?_ | refine AW_exit ?_ | refine AW_ret ?_)
              refine ret_exact rfl (.refl _) rfl rfl rfl rfl ⟨?_, rfl⟩
              show AV.d (.int .i64 one) = _
              rw [hf]
            · have h6' : ¬ f = one := by simpa using h6
              rw [if_neg h6'] at hf
              repeat (first | refine wk hT rfl rfl ?_ | refine wd hT rfl rfl rfl ?_ | refine wz hT rfl ?_ | refine AWd_nil ?_ | refine AWk_nil ?_ | refine wh hT rfl rfl rfl rfl ?_ | refine wg hT rfl rfl rfl rfl rfl ?_ | refine AW_seq ?_ | refine AW_region ?_ | refine wx mixed ?_ | refine AW_block ?_ | refine AW_skip ?_ | refine AW_exit ?_ | refine AW_ret ?_)
              refine AW_condL rfl (fun h7 => ?_) (fun h7 => ?_)
              · have h7' : f = 0 := by simpa using h7
                rw [if_pos h7'] at hf
                repeat (first | refine wk hT rfl rfl ?_ | refine wd hT rfl rfl rfl ?_ | refine wz hT rfl ?_ | refine AWd_nil ?_ | refine AWk_nil ?_ | refine wh hT rfl rfl rfl rfl ?_ | refine wg hT rfl rfl rfl rfl rfl ?_ | refine AW_seq ?_ | refine AW_region ?_ | refine wx mixed ?_ | refine AW_block ?_ | refine AW_skip ?_ | refine AW_exit ?_ | refine AW_ret ?_)
                exact ⟨(j + 1, 0), [.dead], ⟨by simp only; omega, hf⟩, by simp only; omega, ⟨.refl _, .refl _, .refl _, .refl _, .refl _, .refl _, AV.le.eq (by show AV.d (.int .i64 (IntKind.i64.wrap ((j : Int) + 1))) = _; rw [hwr]), trivial⟩, ⟨ObLe.refl _, trivial, trivial⟩, Env.below_mono hE (by simp), rfl, rfl⟩
              · have h7' : ¬ f = 0 := by simpa using h7
                rw [if_neg h7'] at hf
                repeat (first | refine wk hT rfl rfl ?_ | refine wd hT rfl rfl rfl ?_ | refine wz hT rfl ?_ | refine AWd_nil ?_ | refine AWk_nil ?_ | refine wh hT rfl rfl rfl rfl ?_ | refine wg hT rfl rfl rfl rfl rfl ?_ | refine AW_seq ?_ | refine AW_region ?_ | refine wx mixed ?_ | refine AW_block ?_ | refine AW_skip ?_ | refine AW_exit ?_ | refine AW_ret ?_)
                exact ⟨(j + 1, al), [.dead], ⟨by simp only; omega, hf⟩, by simp only; omega, ⟨.refl _, .refl _, .refl _, .refl _, .refl _, .refl _, AV.le.eq (by show AV.d (.int .i64 (IntKind.i64.wrap ((j : Int) + 1))) = _; rw [hwr]), trivial⟩, ⟨ObLe.refl _, trivial, trivial⟩, Env.below_mono hE (by simp), rfl, rfl⟩
          · have hge : j = kids.length := by rw [hlen] at h5; simp at h5; omega
            subst hge
            rw [List.drop_length] at hf
            repeat (first | refine wk hT rfl rfl ?_ | refine wd hT rfl rfl rfl ?_ | refine wz hT rfl ?_ | refine AWd_nil ?_ | refine AWk_nil ?_ | refine wh hT rfl rfl rfl rfl ?_ | refine wg hT rfl rfl rfl rfl rfl ?_ | refine AW_seq ?_ | refine AW_region ?_ | refine wx mixed ?_ | refine AW_block ?_ | refine AW_skip ?_ | refine AW_exit ?_ | refine AW_ret ?_)
            refine ret_exact rfl (.refl _) rfl rfl rfl rfl ⟨?_, rfl⟩
            show AV.d (.int .i64 al) = _
            rw [← hf]; rfl

def forcedP (c : Cond) (l : List Res) : Int := if validC 8 c = true then forcedF l 8 c else 0

set_option maxHeartbeats 4000000 in
set_option maxRecDepth 100000 in
theorem Forced_spec (c : Cond) (l : List Res) (hl : l.length ≤ 1000000) (hs : smallC c) : Spec Try.prog 12 [cAV c, .d (.sl 2 (encRes l))] [] (fun r h' => r = .d (.int .i64 (forcedP c l)) ∧ h' = []) := by
  have hv := valid_spec 8 c (by omega) hs
  have hf := forced_spec l hl 8 c
  unfold forcedP
  generalize validC 8 c = b at hv hf ⊢
  generalize forcedF l 8 c = f at hf ⊢
  obtain ⟨k, ch, v, kids⟩ := c
  refine Spec_of_body hT Try.func12 rfl rfl rfl rfl ?_
  intro E hE
  repeat (first | refine wk hT rfl rfl ?_ | refine wd hT rfl rfl rfl ?_ | refine wz hT rfl ?_ | refine AWd_nil ?_ | refine AWk_nil ?_ | refine wh hT rfl rfl rfl rfl ?_ | refine wg hT rfl rfl rfl rfl rfl ?_ | refine AW_seq ?_ | refine AW_region ?_ | refine wx mixed ?_ | refine AW_block ?_ | refine AW_skip ?_ | refine AW_exit ?_ | refine AW_ret ?_)
  refine AWk_op (callS0 rfl rfl hv rfl rfl rfl) rfl ?_
  repeat (first | refine wk hT rfl rfl ?_ | refine wd hT rfl rfl rfl ?_ | refine wz hT rfl ?_ | refine AWd_nil ?_ | refine AWk_nil ?_ | refine wh hT rfl rfl rfl rfl ?_ | refine wg hT rfl rfl rfl rfl rfl ?_ | refine AW_seq ?_ | refine AW_region ?_ | refine wx mixed ?_ | refine AW_block ?_ | refine AW_skip ?_ | refine AW_exit ?_ | refine AW_ret ?_)
  refine AW_condL rfl (fun h1 => ?_) (fun h1 => ?_)
  · have h1' : ¬ b = true := by simpa using h1
    rw [if_neg h1']
    repeat (first | refine wk hT rfl rfl ?_ | refine wd hT rfl rfl rfl ?_ | refine wz hT rfl ?_ | refine AWd_nil ?_ | refine AWk_nil ?_ | refine wh hT rfl rfl rfl rfl ?_ | refine wg hT rfl rfl rfl rfl rfl ?_ | refine AW_seq ?_ | refine AW_region ?_ | refine wx mixed ?_ | refine AW_block ?_ | refine AW_skip ?_ | refine AW_exit ?_ | refine AW_ret ?_)
    exact ret_exact rfl (.refl _) rfl rfl rfl rfl ⟨rfl, rfl⟩
  · have h1' : b = true := by simpa using h1
    rw [if_pos h1']
    repeat (first | refine wk hT rfl rfl ?_ | refine wd hT rfl rfl rfl ?_ | refine wz hT rfl ?_ | refine AWd_nil ?_ | refine AWk_nil ?_ | refine wh hT rfl rfl rfl rfl ?_ | refine wg hT rfl rfl rfl rfl rfl ?_ | refine AW_seq ?_ | refine AW_region ?_ | refine wx mixed ?_ | refine AW_block ?_ | refine AW_skip ?_ | refine AW_exit ?_ | refine AW_ret ?_)
    refine AWk_op (callS0 rfl rfl (hf h1' hs) rfl rfl rfl) rfl ?_
    repeat (first | refine wk hT rfl rfl ?_ | refine wd hT rfl rfl rfl ?_ | refine wz hT rfl ?_ | refine AWd_nil ?_ | refine AWk_nil ?_ | refine wh hT rfl rfl rfl rfl ?_ | refine wg hT rfl rfl rfl rfl rfl ?_ | refine AW_seq ?_ | refine AW_region ?_ | refine wx mixed ?_ | refine AW_block ?_ | refine AW_skip ?_ | refine AW_exit ?_ | refine AW_ret ?_)
    exact ret_exact rfl (.refl _) rfl rfl rfl rfl ⟨rfl, rfl⟩
end Tdoc
/- Package policy: whether a condition holds. -/
set_option linter.unusedVariables false
set_option linter.unusedSimpArgs false
namespace Tdoc
open Go Go.Proofs

def isH (v : Int) : Option Int → Bool
  | none => v == 4
  | some x => x == v
def holdsF (l : List Res) : Nat → Cond → Bool
  | 0, _ => false
  | d + 1, .mk k c v kids =>
    if k = 1 then isH v (valOf c l) else if k = 2 then !((kids.map fun x => holdsF l d x).headD false)
    else if k = 3 then !(kids.any fun x => !holdsF l d x) else kids.any fun x => holdsF l d x

set_option maxHeartbeats 8000000 in
set_option maxRecDepth 100000 in
theorem holds_spec (l : List Res) (hl : l.length ≤ 1000000) : ∀ (d : Nat) (c : Cond), validC d c = true → smallC c → Spec Try.prog 25 [cAV c, .d (.sl 2 (encRes l))] [] (fun r h' => r = .d (.bool (holdsF l d c)) ∧ h' = [])
  | 0, c, hv, _ => by simp [validC] at hv
  | d + 1, .mk k c v kids, hv, hs => by
    have hlen := encCs_length kids
    have hs1 := hs.1
    have h1 : ∀ x, x ∈ kids → validC d x = true → Spec Try.prog 42 ([] ++ ([cAV x] ++ [.ptr 0 0])) [.row [.d (.sl 2 (encRes l))]] (fun r h' => r = .d (.bool (holdsF l d x)) ∧ h' = [.row [.d (.sl 2 (encRes l))]]) := by
      intro x hx hvx
      have ih := holds_spec l hl d x hvx (smallCs_at hs.2 x hx)
      generalize holdsF l d x = b at ih ⊢
      obtain ⟨k2, cc2, cv2, kids2⟩ := x
      refine Spec_of_body hT Try.func42 rfl rfl rfl rfl ?_
      intro E hE
      repeat (first | refine wk hT rfl rfl ?_ | refine wd hT rfl rfl rfl ?_ | refine wz hT rfl ?_ | refine AWd_nil ?_ | refine AWk_nil ?_ | refine wh hT rfl rfl rfl rfl ?_ | refine wg hT rfl rfl rfl rfl rfl ?_ | refine AW_seq ?_ | refine AW_region ?_ | refine wx mixed ?_ | refine AW_block ?_ | refine AW_skip ?_ | refine AW_exit ?_ | refine AW_ret ?_)
      refine AWk_op (callS0 rfl rfl ih rfl rfl rfl) rfl ?_
      repeat (first | refine wk hT rfl rfl ?_ | refine wd hT rfl rfl rfl ?_ | refine wz hT rfl ?_ | refine AWd_nil ?_ | refine AWk_nil ?_ | refine wh hT rfl rfl rfl rfl ?_ | refine wg hT rfl rfl rfl rfl rfl ?_ | refine AW_seq ?_ | refine AW_region ?_ | refine wx mixed ?_ | refine AW_block ?_ | refine AW_skip ?_ | refine AW_exit ?_ | refine AW_ret ?_)
      exact ret_exact rfl (.refl _) rfl rfl rfl rfl ⟨rfl, rfl⟩
    have h3 : ∀ x, x ∈ kids → validC d x = true → Spec Try.prog 45 ([] ++ ([cAV x] ++ [.ptr 0 0])) [.row [.fn (.func 42) [] [.ptr 1 0]], .row [.d (.sl 2 (encRes l))]] (fun r h' => r = .d (.bool (!holdsF l d x)) ∧ h' = [.row [.fn (.func 42) [] [.ptr 1 0]], .row [.d (.sl 2 (encRes l))]]) := by
      intro x hx hvx
      have ih := h1 x hx hvx
      generalize holdsF l d x = b at ih ⊢
      obtain ⟨k2, cc2, cv2, kids2⟩ := x
      refine Spec_of_body hT Try.func45 rfl rfl rfl rfl ?_
      intro E hE
      repeat (first | refine wk hT rfl rfl ?_ | refine wd hT rfl rfl rfl ?_ | refine wz hT rfl ?_ | refine AWd_nil ?_ | refine AWk_nil ?_ | refine wh hT rfl rfl rfl rfl ?_ | refine wg hT rfl rfl rfl rfl rfl ?_ | refine AW_seq ?_ | refine AW_region ?_ | refine wx mixed ?_ | refine AW_block ?_ | refine AW_skip ?_ | refine AW_exit ?_ | refine AW_ret ?_)
      refine AWk_op (callS1 rfl rfl ih [1] (by decide) rfl rfl rfl rfl rfl rfl rfl) rfl ?_
      repeat (first | refine wk hT rfl rfl ?_ | refine wd hT rfl rfl rfl ?_ | refine wz hT rfl ?_ | refine AWd_nil ?_ | refine AWk_nil ?_ | refine wh hT rfl rfl rfl rfl ?_ | refine wg hT rfl rfl rfl rfl rfl ?_ | refine AW_seq ?_ | refine AW_region ?_ | refine wx mixed ?_ | refine AW_block ?_ | refine AW_skip ?_ | refine AW_exit ?_ | refine AW_ret ?_)
      exact ret_exact rfl (.refl _) rfl rfl rfl rfl ⟨rfl, rfl⟩
    have hix := IndexFuncR_spec (l := l) (g := 44) (k := k) (c := c) (v := v) (kids := kids) (fun r => holds2_spec k c v kids r) (by omega)
    refine Spec_of_body hT Try.func25 rfl rfl rfl rfl ?_
    intro E hE
    rw [holdsF]
    repeat (first | refine wk hT rfl rfl ?_ | refine wd hT rfl rfl rfl ?_ | refine wz hT rfl ?_ | refine AWd_nil ?_ | refine AWk_nil ?_ | refine wh hT rfl rfl rfl rfl ?_ | refine wg hT rfl rfl rfl rfl rfl ?_ | refine AW_seq ?_ | refine AW_region ?_ | refine wx mixed ?_ | refine AW_block ?_ | refine AW_skip ?_ | refine AW_exit ?_ | refine AW_ret ?_)
    refine AW_condL rfl (fun hk => ?_) (fun hk => ?_)
    · have hk' : k = 1 := by simpa using hk
      rw [if_pos hk']
      repeat (first | refine wk hT rfl rfl ?_ | refine wd hT rfl rfl rfl ?_ | refine wz hT rfl ?_ | refine AWd_nil ?_ | refine AWk_nil ?_ | refine wh hT rfl rfl rfl rfl ?_ | refine wg hT rfl rfl rfl rfl rfl ?_ | refine AW_seq ?_ | refine AW_region ?_ | refine wx mixed ?_ | refine AW_block ?_ | refine AW_skip ?_ | refine AW_exit ?_ | refine AW_ret ?_)
      refine AWk_op (callS1 rfl rfl hix [0] (by decide) rfl rfl rfl rfl rfl rfl rfl) rfl ?_
      repeat (first | refine wk hT rfl rfl ?_ | refine wd hT rfl rfl rfl ?_ | refine wz hT rfl ?_ | refine AWd_nil ?_ | refine AWk_nil ?_ | refine wh hT rfl rfl rfl rfl ?_ | refine wg hT rfl rfl rfl rfl rfl ?_ | refine AW_seq ?_ | refine AW_region ?_ | refine wx mixed ?_ | refine AW_block ?_ | refine AW_skip ?_ | refine AW_exit ?_ | refine AW_ret ?_)
      cases hvo : valOf c l with
      | none =>
        rw [resIdx_none hvo]
        refine AW_condL rfl (fun _ => ?_) (fun hf => by simp at hf)
        repeat (first | refine wk hT rfl rfl ?_ | refine wd hT rfl rfl rfl ?_ | refine wz hT rfl ?_ | refine AWd_nil ?_ | refine AWk_nil ?_ | refine wh hT rfl rfl rfl rfl ?_ | refine wg hT rfl rfl rfl rfl rfl ?_ | refine AW_seq ?_ | refine AW_region ?_ | refine wx mixed ?_ | refine AW_block ?_ | refine AW_skip ?_ | refine AW_exit ?_ | refine AW_ret ?_)
        exact ret_exact rfl (.refl _) rfl rfl rfl rfl ⟨rfl, rfl⟩
      | some x =>
        obtain ⟨i, hi, h5, h6⟩ := resIdx_some hvo
        rw [h5]
        have hel : (encRes l)[((i : Int)).toNat]? = some [.int .i64 l[i].1, .int .i64 l[i].2] := by simp [encRes, hi, encRe]
        refine AW_condL rfl (fun hf => by simp at hf; omega) (fun _ => ?_)
        repeat (first | refine wk hT rfl rfl ?_ | refine wd hT rfl rfl rfl ?_ | refine wz hT rfl ?_ | refine AWd_nil ?_ | refine AWk_nil ?_ | refine wh hT rfl rfl rfl rfl ?_ | refine wg hT rfl rfl rfl rfl rfl ?_ | refine AW_seq ?_ | refine AW_region ?_ | refine wx mixed ?_ | refine AW_block ?_ | refine AW_skip ?_ | refine AW_exit ?_ | refine AW_ret ?_)
        refine AWd_op (OpS_of_pure (indexAddr_ok hT rfl rfl rfl rfl (by omega) hel)) rfl rfl ?_
        repeat (first | refine wk hT rfl rfl ?_ | refine wd hT rfl rfl rfl ?_ | refine wz hT rfl ?_ | refine AWd_nil ?_ | refine AWk_nil ?_ | refine wh hT rfl rfl rfl rfl ?_ | refine wg hT rfl rfl rfl rfl rfl ?_ | refine AW_seq ?_ | refine AW_region ?_ | refine wx mixed ?_ | refine AW_block ?_ | refine AW_skip ?_ | refine AW_exit ?_ | refine AW_ret ?_)
        refine ret_exact rfl (.refl _) rfl rfl rfl rfl ⟨?_, rfl⟩
        show AV.d (.bool (l[i].2 == v)) = _
        rw [h6]; rfl
    · have hk1 : ¬ k = 1 := by simpa using hk
      rw [if_neg hk1]
      rw [validC, if_neg hk1] at hv
      have hcv : ¬ (c ≠ 0 ∨ v ≠ 0) := by intro hh; rw [if_pos hh] at hv; cases hv
      rw [if_neg hcv] at hv
      repeat (first | refine wk hT rfl rfl ?_ | refine wd hT rfl rfl rfl ?_ | refine wz hT rfl ?_ | refine AWd_nil ?_ | refine AWk_nil ?_ | refine wh hT rfl rfl rfl rfl ?_ | refine wg hT rfl rfl rfl rfl rfl ?_ | refine AW_seq ?_ | refine AW_region ?_ | refine wx mixed ?_ | refine AW_block ?_ | refine AW_skip ?_ | refine AW_exit ?_ | refine AW_ret ?_)
      refine AW_condL rfl (fun hk2 => ?_) (fun hk2 => ?_)
      · have hk2' : k = 2 := by simpa using hk2
        rw [if_pos hk2'] at hv ⊢
        cases kids with
        | nil => simp at hv
        | cons x rest =>
          have hvx : validC d x = true := by
            rw [Bool.and_eq_true] at hv
            have h9 := hv.2
            simp at h9
            exact h9.1
          have hx := h1 x List.mem_cons_self hvx
          have hel : (encCs (x :: rest))[((0 : Int)).toNat]? = some (encC x) := by simp [encCs]
          rw [List.map_cons, List.headD_cons]
          generalize holdsF l d x = f at hx
          obtain ⟨xk, xc, xv, xkids⟩ := x
          repeat (first | refine wk hT rfl rfl ?_ | refine wd hT rfl rfl rfl ?_ | refine wz hT rfl ?_ | refine AWd_nil ?_ | refine AWk_nil ?_ | refine wh hT rfl rfl rfl rfl ?_ | refine wg hT rfl rfl rfl rfl rfl ?_ | refine AW_seq ?_ | refine AW_region ?_ | refine wx mixed ?_ | refine AW_block ?_ | refine AW_skip ?_ | refine AW_exit ?_ | refine AW_ret ?_)
          refine AWd_op (OpS_of_pure (indexAddr_ok hT rfl rfl rfl rfl (by decide) hel)) rfl rfl ?_
          repeat (first | refine wk hT rfl rfl ?_ | refine wd hT rfl rfl rfl ?_ | refine wz hT rfl ?_ | refine AWd_nil ?_ | refine AWk_nil ?_ | refine wh hT rfl rfl rfl rfl ?_ | refine wg hT rfl rfl rfl rfl rfl ?_ | refine AW_seq ?_ | refine AW_region ?_ | refine wx mixed ?_ | refine AW_block ?_ | refine AW_skip ?_ | refine AW_exit ?_ | refine AW_ret ?_)
          refine AWd_op (callS1 rfl rfl hx [1] (by decide) rfl rfl rfl rfl rfl rfl rfl) rfl rfl ?_
          repeat (first | refine wk hT rfl rfl ?_ | refine wd hT rfl rfl rfl ?_ | refine wz hT rfl ?_ | refine AWd_nil ?_ | refine AWk_nil ?_ | refine wh hT rfl rfl rfl rfl ?_ | refine wg hT rfl rfl rfl rfl rfl ?_ | refine AW_seq ?_ | refine AW_region ?_ | refine wx mixed ?_ | refine AW_block ?_ | refine AW_skip ?_ | refine AW_exit ?_ | refine AW_ret ?_)
          exact ret_exact rfl (.refl _) rfl rfl rfl rfl ⟨rfl, rfl⟩
      · have hk2' : ¬ k = 2 := by simpa using hk2
        rw [if_neg hk2'] at hv ⊢
        have hk34 : k = 3 ∨ k = 4 := by
          by_cases hh : k = 3 ∨ k = 4
          · exact hh
          · rw [if_neg hh] at hv; cases hv
        rw [if_pos hk34] at hv
        have hall : ∀ x, x ∈ kids → validC d x = true := by
          rw [Bool.and_eq_true] at hv
          have h9 := hv.2
          simpa using h9
        have c3 := ContainsFuncC_spec (p := fun x => !holdsF l d x) (kids := kids) (fun x hx => h3 x hx (hall x hx)) rfl rfl rfl hs.1
        have c1 := ContainsFuncC_spec (p := fun x => holdsF l d x) (kids := kids) (fun x hx => h1 x hx (hall x hx)) rfl rfl rfl hs.1
        generalize (kids.any fun x => !holdsF l d x) = b3 at c3 ⊢
        generalize (kids.any fun x => holdsF l d x) = b1 at c1 ⊢
        repeat (first | refine wk hT rfl rfl ?_ | refine wd hT rfl rfl rfl ?_ | refine wz hT rfl ?_ | refine AWd_nil ?_ | refine AWk_nil ?_ | refine wh hT rfl rfl rfl rfl ?_ | refine wg hT rfl rfl rfl rfl rfl ?_ | refine AW_seq ?_ | refine AW_region ?_ | refine wx mixed ?_ | refine AW_block ?_ | refine AW_skip ?_ | refine AW_exit ?_ | refine AW_ret ?_)
        refine AW_condL rfl (fun hk3 => ?_) (fun hk3 => ?_)
        · have hk3' : k = 3 := by simpa using hk3
          rw [if_pos hk3']
          repeat (first | refine wk hT rfl rfl ?_ | refine wd hT rfl rfl rfl ?_ | refine wz hT rfl ?_ | refine AWd_nil ?_ | refine AWk_nil ?_ | refine wh hT rfl rfl rfl rfl ?_ | refine wg hT rfl rfl rfl rfl rfl ?_ | refine AW_seq ?_ | refine AW_region ?_ | refine wx mixed ?_ | refine AW_block ?_ | refine AW_skip ?_ | refine AW_exit ?_ | refine AW_ret ?_)
          refine AWk_op (callS rfl rfl c3 [2, 1] (by decide) rfl rfl rfl rfl rfl rfl) rfl ?_
          repeat (first | refine wk hT rfl rfl ?_ | refine wd hT rfl rfl rfl ?_ | refine wz hT rfl ?_ | refine AWd_nil ?_ | refine AWk_nil ?_ | refine wh hT rfl rfl rfl rfl ?_ | refine wg hT rfl rfl rfl rfl rfl ?_ | refine AW_seq ?_ | refine AW_region ?_ | refine wx mixed ?_ | refine AW_block ?_ | refine AW_skip ?_ | refine AW_exit ?_ | refine AW_ret ?_)
          exact ret_exact rfl (.refl _) rfl rfl rfl rfl ⟨rfl, rfl⟩
        · have hk3' : ¬ k = 3 := by simpa using hk3
          rw [if_neg hk3']
          repeat (first | refine wk hT rfl rfl ?_ | refine wd hT rfl rfl rfl ?_ | refine wz hT rfl ?_ | refine AWd_nil ?_ | refine AWk_nil ?_ | refine wh hT rfl rfl rfl rfl ?_ | refine wg hT rfl rfl rfl rfl rfl ?_ | refine AW_seq ?_ | refine AW_region ?_ | refine wx mixed ?_ | refine AW_block ?_ | refine AW_skip ?_ | refine AW_exit ?_ | refine AW_ret ?_)
          refine AWk_op (callS1 rfl rfl c1 [1] (by decide) rfl rfl rfl rfl rfl rfl rfl) rfl ?_
          repeat (first | refine wk hT rfl rfl ?_ | refine wd hT rfl rfl rfl ?_ | refine wz hT rfl ?_ | refine AWd_nil ?_ | refine AWk_nil ?_ | refine wh hT rfl rfl rfl rfl ?_ | refine wg hT rfl rfl rfl rfl rfl ?_ | refine AW_seq ?_ | refine AW_region ?_ | refine wx mixed ?_ | refine AW_block ?_ | refine AW_skip ?_ | refine AW_exit ?_ | refine AW_ret ?_)
          exact ret_exact rfl (.refl _) rfl rfl rfl rfl ⟨rfl, rfl⟩

def holdsP (c : Cond) (l : List Res) : Bool := validC 8 c && holdsF l 8 c
end Tdoc
/- Package policy: Holds; and the sanity check of the laws. -/
set_option linter.unusedVariables false
set_option linter.unusedSimpArgs false
namespace Tdoc
open Go Go.Proofs

set_option maxHeartbeats 4000000 in
set_option maxRecDepth 100000 in
theorem Holds_spec (c : Cond) (l : List Res) (hl : l.length ≤ 1000000) (hs : smallC c) : Spec Try.prog 11 [cAV c, .d (.sl 2 (encRes l))] [] (fun r h' => r = .d (.bool (holdsP c l)) ∧ h' = []) := by
  have hv := valid_spec 8 c (by omega) hs
  have hf := holds_spec l hl 8 c
  unfold holdsP
  generalize validC 8 c = b at hv hf ⊢
  generalize holdsF l 8 c = f at hf ⊢
  obtain ⟨k, ch, v, kids⟩ := c
  refine Spec_of_body hT Try.func11 rfl rfl rfl rfl ?_
  intro E hE
  repeat (first | refine wk hT rfl rfl ?_ | refine wd hT rfl rfl rfl ?_ | refine wz hT rfl ?_ | refine AWd_nil ?_ | refine AWk_nil ?_ | refine wh hT rfl rfl rfl rfl ?_ | refine wg hT rfl rfl rfl rfl rfl ?_ | refine AW_seq ?_ | refine AW_region ?_ | refine wx mixed ?_ | refine AW_block ?_ | refine AW_skip ?_ | refine AW_exit ?_ | refine AW_ret ?_)
  refine AWk_op (callS0 rfl rfl hv rfl rfl rfl) rfl ?_
  repeat (first | refine wk hT rfl rfl ?_ | refine wd hT rfl rfl rfl ?_ | refine wz hT rfl ?_ | refine AWd_nil ?_ | refine AWk_nil ?_ | refine wh hT rfl rfl rfl rfl ?_ | refine wg hT rfl rfl rfl rfl rfl ?_ | refine AW_seq ?_ | refine AW_region ?_ | refine wx mixed ?_ | refine AW_block ?_ | refine AW_skip ?_ | refine AW_exit ?_ | refine AW_ret ?_)
  refine AWk_gop rfl rfl rfl (fun hg => ⟨by first | exact True.intro | exact ⟨hg, True.intro⟩ | exact ⟨hg, hg, True.intro⟩, callS0 rfl rfl (hf (by simpa [gval] using hg) hs) rfl rfl rfl⟩) ?_
  repeat (first | refine wk hT rfl rfl ?_ | refine wd hT rfl rfl rfl ?_ | refine wz hT rfl ?_ | refine AWd_nil ?_ | refine AWk_nil ?_ | refine wh hT rfl rfl rfl rfl ?_ | refine wg hT rfl rfl rfl rfl rfl ?_ | refine AW_seq ?_ | refine AW_region ?_ | refine wx mixed ?_ | refine AW_block ?_ | refine AW_skip ?_ | refine AW_exit ?_ | refine AW_ret ?_)
  exact ret_exact rfl (.refl _) rfl rfl rfl rfl ⟨rfl, rfl⟩

def aw1 : List UInt8 := [97, 99, 99, 101, 112, 116, 32, 105, 102, 32, 115, 105, 103, 110, 97, 116, 117, 114, 101, 32, 97, 110, 100, 32, 40, 99, 104, 105, 112, 32, 111, 114, 32, 97, 99, 116, 105, 118, 101, 41, 59, 32, 114, 101, 102, 101, 114, 59]
def aw2 : List UInt8 := [97, 99, 99, 101, 112, 116, 32, 105, 102, 32, 59]
def awC : Cond := .mk 3 0 0 [.mk 1 2 1 [], .mk 4 0 0 [.mk 1 12 1 [], .mk 1 13 1 []]]
def awP : List Rule := [.mk 1 false awC, .mk 2 true (.mk 0 0 0 [])]

theorem aw1_parse : parseP aw1 = (awP, 0, 0) := by kernel_rfl
theorem aw2_parse : parseP aw2 = ([], 10, 71) := by kernel_rfl
theorem aw_valid : validPol awP = 0 := by kernel_rfl
theorem aw_holds : holdsP awC [(2, 1), (12, 1)] = true := by kernel_rfl
theorem aw_forced1 : forcedP awC [(2, 1), (12, 1)] = 1 := by kernel_rfl
theorem aw_forced0 : forcedP awC [(2, 1)] = 0 := by kernel_rfl
theorem aw_small : smallC awC := by simp [awC, smallC, smallCs]

set_option maxHeartbeats 4000000 in
set_option maxRecDepth 100000 in
theorem awake_spec : Spec Try.prog 5 [] [] (fun r h' => r = .d (.bool true) ∧ h' = []) := by
  have p1 := Parse_spec aw1 (by decide)
  have p2 := Parse_spec aw2 (by decide)
  rw [aw1_parse] at p1
  rw [aw2_parse] at p2
  have hv := Valid_spec awP (by intro r hr; simp [awP] at hr; rcases hr with rfl | rfl <;> simp [condR, awC, smallC, smallCs])
  rw [aw_valid] at hv
  have hh := Holds_spec awC [(2, 1), (12, 1)] (by decide) aw_small
  rw [aw_holds] at hh
  have f1 := Forced_spec awC [(2, 1), (12, 1)] (by decide) aw_small
  rw [aw_forced1] at f1
  have f0 := Forced_spec awC [(2, 1)] (by decide) aw_small
  rw [aw_forced0] at f0
  have hel : (encRs awP)[((0 : Int)).toNat]? = some [.int .i64 1, .bool false, .int .i64 3, .int .i64 0, .int .i64 0, .sl 4 (encCs [.mk 1 2 1 [], .mk 4 0 0 [.mk 1 12 1 [], .mk 1 13 1 []]])] := rfl
  refine Spec_of_body hT Try.func5 rfl rfl rfl rfl ?_
  intro E hE
  repeat (first | refine wk hT rfl rfl ?_ | refine wd hT rfl rfl rfl ?_ | refine wz hT rfl ?_ | refine AWd_nil ?_ | refine AWk_nil ?_ | refine wh hT rfl rfl rfl rfl ?_ | refine wg hT rfl rfl rfl rfl rfl ?_ | refine AW_seq ?_ | refine AW_region ?_ | refine AW_block ?_ | refine AW_skip ?_ | refine AW_exit ?_ | refine AW_ret ?_)
  refine AWk_op (callS0 rfl rfl p1 rfl rfl rfl) rfl ?_
  repeat (first | refine wk hT rfl rfl ?_ | refine wd hT rfl rfl rfl ?_ | refine wz hT rfl ?_ | refine AWd_nil ?_ | refine AWk_nil ?_ | refine wh hT rfl rfl rfl rfl ?_ | refine wg hT rfl rfl rfl rfl rfl ?_ | refine AW_seq ?_ | refine AW_region ?_ | refine AW_block ?_ | refine AW_skip ?_ | refine AW_exit ?_ | refine AW_ret ?_)
  refine AWk_op (callS0 rfl rfl p2 rfl rfl rfl) rfl ?_
  repeat (first | refine wk hT rfl rfl ?_ | refine wd hT rfl rfl rfl ?_ | refine wz hT rfl ?_ | refine AWd_nil ?_ | refine AWk_nil ?_ | refine wh hT rfl rfl rfl rfl ?_ | refine wg hT rfl rfl rfl rfl rfl ?_ | refine AW_seq ?_ | refine AW_region ?_ | refine AW_block ?_ | refine AW_skip ?_ | refine AW_exit ?_ | refine AW_ret ?_)
  refine AW_subL (l := [(1, .ptr 0 0), (3, .d (.int .i64 0)), (5, .d (.int .i64 10)), (6, .d (.int .i64 71)), (7, .d (.sl 2 (encRes [(2, 1), (12, 1)])))]) (h' := [.row [.d (.sl 6 (encRs awP))], .dead]) ⟨.refl _, .refl _, .refl _, .refl _, AV.le.dat, trivial⟩ ⟨ObLe.refl _, trivial, trivial⟩ ?_
  repeat (first | refine wk hT rfl rfl ?_ | refine wd hT rfl rfl rfl ?_ | refine wz hT rfl ?_ | refine AWd_nil ?_ | refine AWk_nil ?_ | refine wh hT rfl rfl rfl rfl ?_ | refine wg hT rfl rfl rfl rfl rfl ?_ | refine AW_seq ?_ | refine AW_region ?_ | refine wx mixed ?_ | refine AW_block ?_ | refine AW_skip ?_ | refine AW_exit ?_ | refine AW_ret ?_)
  refine AWd_gop rfl rfl rfl rfl (fun hg => ⟨by first | exact True.intro | exact ⟨hg, True.intro⟩ | exact ⟨hg, hg, True.intro⟩, callS0 rfl rfl hv rfl rfl rfl⟩) ?_
  repeat (first | refine wk hT rfl rfl ?_ | refine wd hT rfl rfl rfl ?_ | refine wz hT rfl ?_ | refine AWd_nil ?_ | refine AWk_nil ?_ | refine wh hT rfl rfl rfl rfl ?_ | refine wg hT rfl rfl rfl rfl rfl ?_ | refine AW_seq ?_ | refine AW_region ?_ | refine wx mixed ?_ | refine AW_block ?_ | refine AW_skip ?_ | refine AW_exit ?_ | refine AW_ret ?_)
  refine AWd_gop rfl rfl rfl rfl (fun hg => ⟨by first | exact True.intro | exact ⟨hg, True.intro⟩ | exact ⟨hg, hg, True.intro⟩, OpS_of_pure (indexAddr_ok hT rfl rfl rfl rfl (by decide) hel)⟩) ?_
  repeat (first | refine wk hT rfl rfl ?_ | refine wd hT rfl rfl rfl ?_ | refine wz hT rfl ?_ | refine AWd_nil ?_ | refine AWk_nil ?_ | refine wh hT rfl rfl rfl rfl ?_ | refine wg hT rfl rfl rfl rfl rfl ?_ | refine AW_seq ?_ | refine AW_region ?_ | refine wx mixed ?_ | refine AW_block ?_ | refine AW_skip ?_ | refine AW_exit ?_ | refine AW_ret ?_)
  refine AWd_gop rfl rfl rfl rfl (fun hg => ⟨by first | exact True.intro | exact ⟨hg, True.intro⟩ | exact ⟨hg, hg, True.intro⟩, callS0 rfl rfl hh rfl rfl rfl⟩) ?_
  repeat (first | refine wk hT rfl rfl ?_ | refine wd hT rfl rfl rfl ?_ | refine wz hT rfl ?_ | refine AWd_nil ?_ | refine AWk_nil ?_ | refine wh hT rfl rfl rfl rfl ?_ | refine wg hT rfl rfl rfl rfl rfl ?_ | refine AW_seq ?_ | refine AW_region ?_ | refine wx mixed ?_ | refine AW_block ?_ | refine AW_skip ?_ | refine AW_exit ?_ | refine AW_ret ?_)
  refine AWd_gop rfl rfl rfl rfl (fun hg => ⟨by first | exact True.intro | exact ⟨hg, True.intro⟩ | exact ⟨hg, hg, True.intro⟩, OpS_of_pure (indexAddr_ok hT rfl rfl rfl rfl (by decide) hel)⟩) ?_
  repeat (first | refine wk hT rfl rfl ?_ | refine wd hT rfl rfl rfl ?_ | refine wz hT rfl ?_ | refine AWd_nil ?_ | refine AWk_nil ?_ | refine wh hT rfl rfl rfl rfl ?_ | refine wg hT rfl rfl rfl rfl rfl ?_ | refine AW_seq ?_ | refine AW_region ?_ | refine wx mixed ?_ | refine AW_block ?_ | refine AW_skip ?_ | refine AW_exit ?_ | refine AW_ret ?_)
  refine AWd_gop rfl rfl rfl rfl (fun hg => ⟨by first | exact True.intro | exact ⟨hg, True.intro⟩ | exact ⟨hg, hg, True.intro⟩, callS0 rfl rfl f1 rfl rfl rfl⟩) ?_
  repeat (first | refine wk hT rfl rfl ?_ | refine wd hT rfl rfl rfl ?_ | refine wz hT rfl ?_ | refine AWd_nil ?_ | refine AWk_nil ?_ | refine wh hT rfl rfl rfl rfl ?_ | refine wg hT rfl rfl rfl rfl rfl ?_ | refine AW_seq ?_ | refine AW_region ?_ | refine wx mixed ?_ | refine AW_block ?_ | refine AW_skip ?_ | refine AW_exit ?_ | refine AW_ret ?_)
  refine AWd_gop rfl rfl rfl rfl (fun hg => ⟨by first | exact True.intro | exact ⟨hg, True.intro⟩ | exact ⟨hg, hg, True.intro⟩, OpS_of_pure (indexAddr_ok hT rfl rfl rfl rfl (by decide) hel)⟩) ?_
  repeat (first | refine wk hT rfl rfl ?_ | refine wd hT rfl rfl rfl ?_ | refine wz hT rfl ?_ | refine AWd_nil ?_ | refine AWk_nil ?_ | refine wh hT rfl rfl rfl rfl ?_ | refine wg hT rfl rfl rfl rfl rfl ?_ | refine AW_seq ?_ | refine AW_region ?_ | refine wx mixed ?_ | refine AW_block ?_ | refine AW_skip ?_ | refine AW_exit ?_ | refine AW_ret ?_)
  refine AWd_gstep hT rfl rfl rfl rfl rfl (fun hg => ⟨by first | exact True.intro | exact ⟨hg, True.intro⟩ | exact ⟨hg, hg, True.intro⟩, by first | decide | (simp [encRes]; done) | (simp [encRes]; omega)⟩) ?_
  repeat (first | refine wk hT rfl rfl ?_ | refine wd hT rfl rfl rfl ?_ | refine wz hT rfl ?_ | refine AWd_nil ?_ | refine AWk_nil ?_ | refine wh hT rfl rfl rfl rfl ?_ | refine wg hT rfl rfl rfl rfl rfl ?_ | refine AW_seq ?_ | refine AW_region ?_ | refine wx mixed ?_ | refine AW_block ?_ | refine AW_skip ?_ | refine AW_exit ?_ | refine AW_ret ?_)
  refine AWd_gop rfl rfl rfl rfl (fun hg => ⟨by first | exact True.intro | exact ⟨hg, True.intro⟩ | exact ⟨hg, hg, True.intro⟩, callS0 rfl rfl f0 rfl rfl rfl⟩) ?_
  repeat (first | refine wk hT rfl rfl ?_ | refine wd hT rfl rfl rfl ?_ | refine wz hT rfl ?_ | refine AWd_nil ?_ | refine AWk_nil ?_ | refine wh hT rfl rfl rfl rfl ?_ | refine wg hT rfl rfl rfl rfl rfl ?_ | refine AW_seq ?_ | refine AW_region ?_ | refine wx mixed ?_ | refine AW_block ?_ | refine AW_skip ?_ | refine AW_exit ?_ | refine AW_ret ?_)
  exact ret_exact rfl (.refl _) rfl rfl rfl rfl ⟨rfl, rfl⟩
end Tdoc
/- Package traveldocmill: Mod, Light, dice. -/
set_option linter.unusedVariables false
set_option linter.unusedSimpArgs false
namespace Tdoc
open Go Go.Proofs

def modP (x n : Int) : Int := if n < 1 then 0 else x % n

theorem tmod_lt {x n : Int} (h : 1 ≤ n) : -n < x.tmod n ∧ x.tmod n < n := by
  have h1 := Int.tmod_lt_of_pos x (b := n) (by omega)
  have h2 : (-x).tmod n < n := Int.tmod_lt_of_pos (-x) (b := n) (by omega)
  rw [Int.neg_tmod] at h2
  omega

theorem mod_tmod {x n : Int} (h : 1 ≤ n) : (x.tmod n + n).tmod n = x % n := by
  have hb := tmod_lt (x := x) h
  rw [Int.tmod_eq_emod_of_nonneg (by omega), Int.add_emod_right]
  have h2 := Int.mul_tdiv_add_tmod x n
  have h3 : x % n = (x.tmod n + n * x.tdiv n) % n := by rw [Int.add_comm, h2]
  rw [h3, Int.add_mul_emod_self_left]

theorem modP_range {x n : Int} (h : 1 ≤ n) : 0 ≤ modP x n ∧ modP x n < n := by
  unfold modP
  rw [if_neg (by omega)]
  exact ⟨Int.emod_nonneg _ (by omega), Int.emod_lt_of_pos _ (by omega)⟩

set_option maxRecDepth 100000 in
theorem Mod_spec (x n : Int) (hn : n ≤ 4611686018427387904) : Spec Try.prog 27 [.d (.int .i64 x), .d (.int .i64 n)] [] (fun r h' => r = .d (.int .i64 (modP x n)) ∧ h' = []) := by
  refine Spec_of_body hT Try.func27 rfl rfl rfl rfl ?_
  intro E hE
  repeat (first | refine wk hT rfl rfl ?_ | refine wd hT rfl rfl rfl ?_ | refine wz hT rfl ?_ | refine AWd_nil ?_ | refine AWk_nil ?_ | refine wh hT rfl rfl rfl rfl ?_ | refine wg hT rfl rfl rfl rfl rfl ?_ | refine AW_seq ?_ | refine AW_region ?_ | refine wx mixed ?_ | refine AW_block ?_ | refine AW_skip ?_ | refine AW_exit ?_ | refine AW_ret ?_)
  refine AW_condL rfl (fun h1 => ?_) (fun h1 => ?_)
  · have h1' : n < 1 := by simpa using h1
    have hm : modP x n = 0 := by unfold modP; rw [if_pos h1']
    rw [hm]
    repeat (first | refine wk hT rfl rfl ?_ | refine wd hT rfl rfl rfl ?_ | refine wz hT rfl ?_ | refine AWd_nil ?_ | refine AWk_nil ?_ | refine wh hT rfl rfl rfl rfl ?_ | refine wg hT rfl rfl rfl rfl rfl ?_ | refine AW_seq ?_ | refine AW_region ?_ | refine wx mixed ?_ | refine AW_block ?_ | refine AW_skip ?_ | refine AW_exit ?_ | refine AW_ret ?_)
    exact ret_exact rfl (.refl _) rfl rfl rfl rfl ⟨rfl, rfl⟩
  · have h1' : ¬ n < 1 := by simpa using h1
    have hne : n ≠ 0 := by omega
    have hb := tmod_lt (x := x) (n := n) (by omega)
    have hw : IntKind.i64.wrap (x.tmod n + n) = x.tmod n + n := wrap_id (by omega)
    have hm : (IntKind.i64.wrap (x.tmod n + n)).tmod n = modP x n := by rw [hw, mod_tmod (by omega)]; unfold modP; rw [if_neg h1']
    rw [← hm]
    repeat (first | refine wk hT rfl rfl ?_ | refine wd hT rfl rfl rfl ?_ | refine wz hT rfl ?_ | refine AWd_nil ?_ | refine AWk_nil ?_ | refine wh hT rfl rfl rfl rfl ?_ | refine wg hT rfl rfl rfl rfl rfl ?_ | refine AW_seq ?_ | refine AW_region ?_ | refine wx mixed ?_ | refine AW_block ?_ | refine AW_skip ?_ | refine AW_exit ?_ | refine AW_ret ?_)
    exact ret_exact rfl (.refl _) rfl rfl rfl rfl ⟨rfl, rfl⟩

theorem numsD_length (k : IntKind) (l : List Int) : (numsD k l).length = l.length := by simp [numsD]

set_option maxRecDepth 100000 in
theorem Light_spec (l : List Int) : Spec Try.prog 4 [.d (.sl 1 (numsD .i64 l))] [] (fun r h' => r = .d (.bool (decide (l.length ≤ 80))) ∧ h' = []) := by
  refine Spec_of_body hT Try.func4 rfl rfl rfl rfl ?_
  intro E hE
  have hl := numsD_length .i64 l
  generalize numsD .i64 l = es at hl
  repeat (first | refine wk hT rfl rfl ?_ | refine wd hT rfl rfl rfl ?_ | refine wz hT rfl ?_ | refine AWd_nil ?_ | refine AWk_nil ?_ | refine wh hT rfl rfl rfl rfl ?_ | refine wg hT rfl rfl rfl rfl rfl ?_ | refine AW_seq ?_ | refine AW_region ?_ | refine wx mixed ?_ | refine AW_block ?_ | refine AW_skip ?_ | refine AW_exit ?_ | refine AW_ret ?_)
  refine ret_exact rfl (.refl _) rfl rfl rfl rfl ⟨?_, rfl⟩
  rw [hl]
  refine congrArg (fun b => AV.d (.bool b)) (decide_eq_decide.2 (by omega))

/-- Dice: the numbers, and how many have been given out. -/
def dice (l : List Int) (at_ : Nat) : List AV := [.d (.sl 1 (numsD .i64 l)), .d (.int .i64 (at_ : Int))]

set_option maxRecDepth 100000 in
theorem Roll_spec (l : List Int) (hl : l.length ≤ 1000000) : Spec Try.prog 13 [.d (.sl 1 (numsD .i64 l))] [.room] (fun r h' => r = .ptr 0 0 ∧ h' = [.row (dice l 0)]) := by
  refine Spec_of_body hT Try.func13 rfl rfl rfl rfl ?_
  intro E hE
  have hll := numsD_length .i64 l
  unfold dice
  generalize numsD .i64 l = es at hll
  repeat (first | refine wk hT rfl rfl ?_ | refine wd hT rfl rfl rfl ?_ | refine wz hT rfl ?_ | refine AWd_nil ?_ | refine AWk_nil ?_ | refine wh hT rfl rfl rfl rfl ?_ | refine wg hT rfl rfl rfl rfl rfl ?_ | refine AW_seq ?_ | refine AW_region ?_ | refine wx mixed ?_ | refine AW_block ?_ | refine AW_skip ?_ | refine AW_exit ?_ | refine AW_ret ?_)
  refine AWk_op (append_full (es := []) hT rfl rfl rfl (.inl rfl) rfl (by show (([] : List (List Dat)).length + es.length) * (8 + 1) ≤ 140737488355328; simp; omega)) rfl ?_
  refine AWk_step hT rfl rfl (by first | exact True.intro | exact (fun hh => hh) | omega | assumption | (intro hh; rw [hh]; rfl) | (intro hh; simp [gval, hh]; done) | (simp; omega)) ?_
  refine AWk_op (boxAt_ok (i0 := 0) rfl rfl rfl) rfl ?_
  repeat (first | refine wk hT rfl rfl ?_ | refine wd hT rfl rfl rfl ?_ | refine wz hT rfl ?_ | refine AWd_nil ?_ | refine AWk_nil ?_ | refine wh hT rfl rfl rfl rfl ?_ | refine wg hT rfl rfl rfl rfl rfl ?_ | refine AW_seq ?_ | refine AW_region ?_ | refine wx mixed ?_ | refine AW_block ?_ | refine AW_skip ?_ | refine AW_exit ?_ | refine AW_ret ?_)
  exact ret_exact rfl (.refl _) rfl rfl rfl rfl ⟨rfl, rfl⟩

def nextV (l : List Int) (at_ : Nat) (n : Int) : Int := match l[at_]? with
  | none => 0
  | some x => modP x n
def nextA (l : List Int) (at_ : Nat) : Nat := if at_ < l.length then at_ + 1 else at_

theorem nextA_le {l : List Int} {a : Nat} (h : a ≤ l.length) : nextA l a ≤ l.length := by unfold nextA; split <;> omega
theorem nextV_range {l : List Int} {a : Nat} {n : Int} (h : 1 ≤ n) : 0 ≤ nextV l a n ∧ nextV l a n < n := by
  unfold nextV
  split
  · omega
  · exact modP_range h

set_option maxRecDepth 100000 in
theorem Next_spec (l : List Int) (a : Nat) (n : Int) (hn : n ≤ 4611686018427387904) (hl : l.length ≤ 1000000) (ha : a ≤ l.length) :
    Spec Try.prog 14 [.ptr 0 0, .d (.int .i64 n)] [.row (dice l a)] (fun r h' => r = .d (.int .i64 (nextV l a n)) ∧ h' = [.row (dice l (nextA l a))]) := by
  refine Spec_of_body hT Try.func14 rfl rfl rfl rfl ?_
  intro E hE
  have hll := numsD_length .i64 l
  unfold dice
  repeat (first | refine wk hT rfl rfl ?_ | refine wd hT rfl rfl rfl ?_ | refine wz hT rfl ?_ | refine AWd_nil ?_ | refine AWk_nil ?_ | refine wh hT rfl rfl rfl rfl ?_ | refine wg hT rfl rfl rfl rfl rfl ?_ | refine AW_seq ?_ | refine AW_region ?_ | refine wx mixed ?_ | refine AW_block ?_ | refine AW_skip ?_ | refine AW_exit ?_ | refine AW_ret ?_)
  refine AW_condL rfl (fun h1 => ?_) (fun h1 => ?_)
  · have h1' : ¬ a < l.length := by rw [hll] at h1; simp at h1; omega
    have hget : l[a]? = none := List.getElem?_eq_none (by omega)
    have hv : nextV l a n = 0 := by simp [nextV, hget]
    have hv2 : nextA l a = a := by simp [nextA, h1']
    rw [hv, hv2]
    repeat (first | refine wk hT rfl rfl ?_ | refine wd hT rfl rfl rfl ?_ | refine wz hT rfl ?_ | refine AWd_nil ?_ | refine AWk_nil ?_ | refine wh hT rfl rfl rfl rfl ?_ | refine wg hT rfl rfl rfl rfl rfl ?_ | refine AW_seq ?_ | refine AW_region ?_ | refine wx mixed ?_ | refine AW_block ?_ | refine AW_skip ?_ | refine AW_exit ?_ | refine AW_ret ?_)
    exact ret_exact rfl (.refl _) rfl rfl rfl rfl ⟨rfl, rfl⟩
  · have h1' : a < l.length := by rw [hll] at h1; simp at h1; omega
    have hw1 : IntKind.i64.wrap ((a : Int) + 1) = ((a + 1 : Nat) : Int) := by rw [wrap_id (by omega)]; simp
    have hw2 : IntKind.i64.wrap (((a + 1 : Nat) : Int) - 1) = (a : Int) := by rw [wrap_id (by omega)]; omega
    have h0 : 0 ≤ IntKind.i64.wrap (IntKind.i64.wrap ((a : Int) + 1) - 1) := by rw [hw1, hw2]; omega
    have hel : (numsD .i64 l)[(IntKind.i64.wrap (IntKind.i64.wrap ((a : Int) + 1) - 1)).toNat]? = some [.int .i64 l[a]] := by rw [hw1, hw2]; simp [numsD, h1']
    have hv : nextV l a n = modP l[a] n := by simp [nextV, h1']
    have hm := Mod_spec l[a] n hn
    rw [← hv] at hm
    generalize l[a] = x at hel hm
    repeat (first | refine wk hT rfl rfl ?_ | refine wd hT rfl rfl rfl ?_ | refine wz hT rfl ?_ | refine AWd_nil ?_ | refine AWk_nil ?_ | refine wh hT rfl rfl rfl rfl ?_ | refine wg hT rfl rfl rfl rfl rfl ?_ | refine AW_seq ?_ | refine AW_region ?_ | refine wx mixed ?_ | refine AW_block ?_ | refine AW_skip ?_ | refine AW_exit ?_ | refine AW_ret ?_)
    refine AWd_op (OpS_of_pure (indexAddr_ok hT rfl rfl rfl rfl h0 hel)) rfl rfl ?_
    repeat (first | refine wk hT rfl rfl ?_ | refine wd hT rfl rfl rfl ?_ | refine wz hT rfl ?_ | refine AWd_nil ?_ | refine AWk_nil ?_ | refine wh hT rfl rfl rfl rfl ?_ | refine wg hT rfl rfl rfl rfl rfl ?_ | refine AW_seq ?_ | refine AW_region ?_ | refine wx mixed ?_ | refine AW_block ?_ | refine AW_skip ?_ | refine AW_exit ?_ | refine AW_ret ?_)
    refine AWd_op (callS0 rfl rfl hm rfl rfl rfl) rfl rfl ?_
    repeat (first | refine wk hT rfl rfl ?_ | refine wd hT rfl rfl rfl ?_ | refine wz hT rfl ?_ | refine AWd_nil ?_ | refine AWk_nil ?_ | refine wh hT rfl rfl rfl rfl ?_ | refine wg hT rfl rfl rfl rfl rfl ?_ | refine AW_seq ?_ | refine AW_region ?_ | refine wx mixed ?_ | refine AW_block ?_ | refine AW_skip ?_ | refine AW_exit ?_ | refine AW_ret ?_)
    refine ret_exact rfl (.refl _) rfl rfl rfl rfl ⟨rfl, ?_⟩
    rw [hw1]
    simp [nextA, h1']

set_option maxRecDepth 100000 in
theorem Rest_spec (l : List Int) (a : Nat) (hl : l.length ≤ 1000000) (ha : a ≤ l.length) :
    Spec Try.prog 28 [.ptr 0 0] [.row (dice l a)] (fun r h' => r = .d (.int .i64 ((l.length - a : Nat) : Int)) ∧ h' = [.row (dice l a)]) := by
  refine Spec_of_body hT Try.func28 rfl rfl rfl rfl ?_
  intro E hE
  have hll := numsD_length .i64 l
  have hw : IntKind.i64.wrap (((numsD .i64 l).length : Int) - (a : Int)) = ((l.length - a : Nat) : Int) := by rw [hll, wrap_id (by omega)]; omega
  unfold dice
  repeat (first | refine wk hT rfl rfl ?_ | refine wd hT rfl rfl rfl ?_ | refine wz hT rfl ?_ | refine AWd_nil ?_ | refine AWk_nil ?_ | refine wh hT rfl rfl rfl rfl ?_ | refine wg hT rfl rfl rfl rfl rfl ?_ | refine AW_seq ?_ | refine AW_region ?_ | refine wx mixed ?_ | refine AW_block ?_ | refine AW_skip ?_ | refine AW_exit ?_ | refine AW_ret ?_)
  refine AWd_op (OpS_of_pure (max2_ok (t2 := #[]) rfl rfl rfl)) rfl rfl ?_
  repeat (first | refine wk hT rfl rfl ?_ | refine wd hT rfl rfl rfl ?_ | refine wz hT rfl ?_ | refine AWd_nil ?_ | refine AWk_nil ?_ | refine wh hT rfl rfl rfl rfl ?_ | refine wg hT rfl rfl rfl rfl rfl ?_ | refine AW_seq ?_ | refine AW_region ?_ | refine wx mixed ?_ | refine AW_block ?_ | refine AW_skip ?_ | refine AW_exit ?_ | refine AW_ret ?_)
  refine ret_exact rfl (.refl _) rfl rfl rfl rfl ⟨?_, rfl⟩
  rw [hw]
  refine congrArg (fun b => AV.d (.int .i64 b)) ?_
  split <;> omega
end Tdoc
/- Package traveldocmill: conditions and results out of numbers. -/
set_option linter.unusedVariables false
set_option linter.unusedSimpArgs false
namespace Tdoc
open Go Go.Proofs

/-! results -/
def resM (l : List Int) (k : Nat) : List Res := (List.range k).map fun j => (((j + 1 : Nat) : Int), 1 + nextV l (min j l.length) 4)
theorem resM_succ (l : List Int) (k : Nat) : resM l (k + 1) = resM l k ++ [(((k + 1 : Nat) : Int), 1 + nextV l (min k l.length) 4)] := by simp [resM, List.range_succ]
theorem resM_length (l : List Int) (k : Nat) : (resM l k).length = k := by simp [resM]
theorem encRes_append (a b : List Res) : encRes (a ++ b) = encRes a ++ encRes b := by simp [encRes]
theorem nextA_min (l : List Int) (k : Nat) : nextA l (min k l.length) = min (k + 1) l.length := by unfold nextA; split <;> omega

/-! conditions -/
def leafM (l : List Int) (a : Nat) : Cond × Nat := (.mk 1 (1 + nextV l a 13) (1 + nextV l (nextA l a) 4) [], nextA l (nextA l a))
def kidsL (f : Nat → Cond × Nat) : Nat → List Cond → Nat → List Cond × Nat
  | 0, acc, a => (acc, a)
  | n + 1, acc, a => kidsL f n (acc ++ [(f a).1]) (f a).2
def kindM (k nt : Int) : Int := if (if k = 4 then 4 else 3) = nt then 7 - (if k = 4 then 4 else 3) else if k = 4 then 4 else 3
def condM (l : List Int) : Nat → Int → Nat → Cond × Nat
  | 0, _, a => leafM l (nextA l a)
  | d + 1, nt, a =>
    if nextV l a 5 < 2 ∨ l.length - nextA l a = 0 then leafM l (nextA l a)
    else if nextV l a 5 = 2 then (.mk 2 0 0 [(condM l d 0 (nextA l a)).1], (condM l d 0 (nextA l a)).2)
    else
      let r := kidsL (condM l d (kindM (nextV l a 5) nt)) (2 + nextV l (nextA l a) 2).toNat [] (nextA l (nextA l a))
      (.mk (kindM (nextV l a 5) nt) 0 0 r.1, r.2)

def CondOk (l : List Int) (d : Nat) (nt : Int) (p : Cond × Nat) : Prop := p.2 ≤ l.length ∧ validC (d + 1) p.1 = true ∧ smallC p.1 ∧ (nt = 3 ∨ nt = 4 → kindC p.1 ≠ nt)

theorem leafM_ok {l : List Int} {d : Nat} {nt : Int} {a : Nat} (h : a ≤ l.length) : CondOk l d nt (leafM l a) := by
  have h1 := nextV_range (l := l) (a := a) (n := 13) (by omega)
  have h2 := nextV_range (l := l) (a := nextA l a) (n := 4) (by omega)
  refine ⟨nextA_le (nextA_le h), ?_, by simp [leafM, smallC, smallCs], fun hn => by simp [leafM, kindC]; omega⟩
  simp [leafM, validC]; omega

theorem kidsL_ok {l : List Int} {d : Nat} {nt : Int} {f : Nat → Cond × Nat} (hf : ∀ a, a ≤ l.length → CondOk l d nt (f a)) : ∀ (n : Nat) (acc : List Cond) (a : Nat), a ≤ l.length → (∀ c, c ∈ acc → validC (d + 1) c = true ∧ smallC c ∧ (nt = 3 ∨ nt = 4 → kindC c ≠ nt)) →
    (kidsL f n acc a).2 ≤ l.length ∧ (∀ c, c ∈ (kidsL f n acc a).1 → validC (d + 1) c = true ∧ smallC c ∧ (nt = 3 ∨ nt = 4 → kindC c ≠ nt)) ∧ (kidsL f n acc a).1.length = acc.length + n
  | 0, acc, a, h, hacc => ⟨h, hacc, rfl⟩
  | n + 1, acc, a, h, hacc => by
    have h1 := hf a h
    have := kidsL_ok hf n (acc ++ [(f a).1]) (f a).2 h1.1 (fun c hc => by
      rcases List.mem_append.1 hc with hc | hc
      · exact hacc c hc
      · simp at hc; subst hc; exact h1.2)
    rw [kidsL]
    refine ⟨this.1, this.2.1, ?_⟩
    rw [this.2.2]; simp; omega

theorem kindM_cases (k nt : Int) : (kindM k nt = 3 ∨ kindM k nt = 4) ∧ (nt = 3 ∨ nt = 4 → kindM k nt ≠ nt) := by
  unfold kindM
  constructor
  · split <;> split <;> omega
  · intro h; split <;> split <;> omega

theorem smallCs_of : ∀ {l : List Cond}, (∀ c, c ∈ l → smallC c) → smallCs l
  | [], _ => trivial
  | a :: l, h => ⟨h a (by simp), smallCs_of fun c hc => h c (by simp [hc])⟩

theorem condM_ok (l : List Int) : ∀ (d : Nat) (nt : Int) (a : Nat), a ≤ l.length → CondOk l d nt (condM l d nt a)
  | 0, nt, a, h => leafM_ok (nextA_le h)
  | d + 1, nt, a, h => by
    have h1 := nextA_le h
    rw [condM]
    split
    · exact leafM_ok h1
    · split
      · have ih := condM_ok l d 0 _ h1
        refine ⟨ih.1, ?_, ⟨by simp, ih.2.2.1, trivial⟩, fun hn => by simp [kindC]; omega⟩
        simp [validC, ih.2.1]
      · have hk := kindM_cases (nextV l a 5) nt
        have hr := nextV_range (l := l) (a := nextA l a) (n := 2) (by omega)
        have ih := kidsL_ok (f := condM l d (kindM (nextV l a 5) nt)) (fun a ha => condM_ok l d _ a ha) (2 + nextV l (nextA l a) 2).toNat [] _ (nextA_le h1) (fun c hc => by cases hc)
        generalize kindM (nextV l a 5) nt = kind at hk ih ⊢
        generalize hm : (2 + nextV l (nextA l a) 2).toNat = m at ih ⊢
        generalize kidsL (condM l d kind) m [] (nextA l (nextA l a)) = r at ih ⊢
        obtain ⟨kids, a'⟩ := r
        obtain ⟨i1, i2, i3⟩ := ih
        simp only [List.length_nil] at i1 i2 i3
        have hk34 : kind = 3 ∨ kind = 4 := hk.1
        refine ⟨i1, ?_, ⟨by simp only; omega, smallCs_of fun c hc => (i2 c hc).2.1⟩, fun hn => hk.2 hn⟩
        have e1 : (kids.any fun x => kindC x == kind) = false := by
          rw [List.any_eq_false]
          intro x hx
          have := (i2 x hx).2.2 hk34
          simpa using this
        have e2 : (kids.any fun x => !validC (d + 1) x) = false := by
          rw [List.any_eq_false]
          intro x hx
          simp [(i2 x hx).1]
        show validC (d + 1 + 1) (.mk kind 0 0 kids) = true
        rw [validC, if_neg (by omega), if_neg (by simp), if_neg (by omega), if_pos hk34, e1, e2]
        simp; omega

theorem condM_wide (l : List Int) (d : Nat) (nt : Int) (a : Nat) (h : a ≤ l.length) : (condM l d nt a).2 ≤ l.length := (condM_ok l d nt a h).1

set_option maxHeartbeats 8000000 in
set_option maxRecDepth 100000 in
theorem Cond_spec (l : List Int) (hl : l.length ≤ 1000000) (d : Nat) : ∀ (nt : Int) (a : Nat), d ≤ 100 → a ≤ l.length →
    Spec Try.prog 15 [.ptr 0 0, .d (.int .i64 ((d + 1 : Nat) : Int)), .d (.int .i64 nt)] [.row (dice l a)] (fun r h' => r = cAV (condM l d nt a).1 ∧ h' = [.row (dice l (condM l d nt a).2)]) := by
  induction d using Nat.strongRecOn with
  | _ d ih =>
  intro nt a hd ha
  have hk := Next_spec l a 5 (by omega) hl ha
  have ha1 := nextA_le ha
  have ha2 := nextA_le ha1
  have hrest := Rest_spec l (nextA l a) hl ha1
  have hkr := nextV_range (l := l) (a := a) (n := 5) (by omega)
  have hc1 := Next_spec l (nextA l a) 13 (by omega) hl ha1
  have hc2 := Next_spec l (nextA l (nextA l a)) 4 (by omega) hl ha2
  have hr1 := nextV_range (l := l) (a := nextA l a) (n := 13) (by omega)
  have hr2 := nextV_range (l := l) (a := nextA l (nextA l a)) (n := 4) (by omega)
  have hc3 := Next_spec l (nextA l a) 2 (by omega) hl ha1
  have hr3 := nextV_range (l := l) (a := nextA l a) (n := 2) (by omega)
  refine Spec_of_body hT Try.func15 rfl rfl rfl rfl ?_
  intro E hE
  repeat (first | refine wk hT rfl rfl ?_ | refine wd hT rfl rfl rfl ?_ | refine wz hT rfl ?_ | refine AWd_nil ?_ | refine AWk_nil ?_ | refine wh hT rfl rfl rfl rfl ?_ | refine wg hT rfl rfl rfl rfl rfl ?_ | refine AW_seq ?_ | refine AW_region ?_ | refine wx mixed ?_ | refine AW_block ?_ | refine AW_skip ?_ | refine AW_exit ?_ | refine AW_ret ?_)
  refine AWk_op (callS1 rfl rfl hk [0] (by decide) rfl rfl rfl rfl rfl rfl rfl) rfl ?_
  repeat (first | refine wk hT rfl rfl ?_ | refine wd hT rfl rfl rfl ?_ | refine wz hT rfl ?_ | refine AWd_nil ?_ | refine AWk_nil ?_ | refine wh hT rfl rfl rfl rfl ?_ | refine wg hT rfl rfl rfl rfl rfl ?_ | refine AW_seq ?_ | refine AW_region ?_ | refine wx mixed ?_ | refine AW_block ?_ | refine AW_skip ?_ | refine AW_exit ?_ | refine AW_ret ?_)
  refine AWk_gop rfl rfl rfl (fun hg => ⟨by first | exact True.intro | exact ⟨hg, True.intro⟩ | exact ⟨hg, hg, True.intro⟩, callS1 rfl rfl hrest [0] (by decide) rfl rfl rfl rfl rfl rfl rfl⟩) ?_
  repeat (first | refine wk hT rfl rfl ?_ | refine wd hT rfl rfl rfl ?_ | refine wz hT rfl ?_ | refine AWd_nil ?_ | refine AWk_nil ?_ | refine wh hT rfl rfl rfl rfl ?_ | refine wg hT rfl rfl rfl rfl rfl ?_ | refine AW_seq ?_ | refine AW_region ?_ | refine wx mixed ?_ | refine AW_block ?_ | refine AW_skip ?_ | refine AW_exit ?_ | refine AW_ret ?_)
  refine AW_condL rfl (fun h1 => ?_) (fun h1 => ?_)
  · have hm : condM l d nt a = leafM l (nextA l a) := by
      cases d with
      | zero => rfl
      | succ d =>
        rw [condM, if_pos]
        simp at h1; omega
    rw [hm]
    unfold leafM
    generalize nextV l (nextA l a) 13 = x1 at hc1 hr1
    generalize nextV l (nextA l (nextA l a)) 4 = x2 at hc2 hr2
    have hw1 : IntKind.i64.wrap (1 + x1) = 1 + x1 := wrap_id (by omega)
    have hw2 : IntKind.i64.wrap (1 + x2) = 1 + x2 := wrap_id (by omega)
    repeat (first | refine wk hT rfl rfl ?_ | refine wd hT rfl rfl rfl ?_ | refine wz hT rfl ?_ | refine AWd_nil ?_ | refine AWk_nil ?_ | refine wh hT rfl rfl rfl rfl ?_ | refine wg hT rfl rfl rfl rfl rfl ?_ | refine AW_seq ?_ | refine AW_region ?_ | refine wx mixed ?_ | refine AW_block ?_ | refine AW_skip ?_ | refine AW_exit ?_ | refine AW_ret ?_)
    refine AWk_op (callS1 rfl rfl hc1 [0] (by decide) rfl rfl rfl rfl rfl rfl rfl) rfl ?_
    repeat (first | refine wk hT rfl rfl ?_ | refine wd hT rfl rfl rfl ?_ | refine wz hT rfl ?_ | refine AWd_nil ?_ | refine AWk_nil ?_ | refine wh hT rfl rfl rfl rfl ?_ | refine wg hT rfl rfl rfl rfl rfl ?_ | refine AW_seq ?_ | refine AW_region ?_ | refine wx mixed ?_ | refine AW_block ?_ | refine AW_skip ?_ | refine AW_exit ?_ | refine AW_ret ?_)
    refine AWk_op (callS1 rfl rfl hc2 [0] (by decide) rfl rfl rfl rfl rfl rfl rfl) rfl ?_
    repeat (first | refine wk hT rfl rfl ?_ | refine wd hT rfl rfl rfl ?_ | refine wz hT rfl ?_ | refine AWd_nil ?_ | refine AWk_nil ?_ | refine wh hT rfl rfl rfl rfl ?_ | refine wg hT rfl rfl rfl rfl rfl ?_ | refine AW_seq ?_ | refine AW_region ?_ | refine wx mixed ?_ | refine AW_block ?_ | refine AW_skip ?_ | refine AW_exit ?_ | refine AW_ret ?_)
    refine ret_exact (r := cAV (.mk 1 (1 + x1) (1 + x2) [])) rfl (AV.le.agg ⟨.refl _, AV.le.eq (by rw [hw1]), AV.le.eq (by rw [hw2]), AV.le.dat, trivial⟩) rfl rfl rfl rfl ⟨rfl, rfl⟩
  · obtain ⟨d, rfl⟩ : ∃ d', d = d' + 1 := ⟨d - 1, by simp at h1; omega⟩
    have hnl : ¬ (nextV l a 5 < 2 ∨ l.length - nextA l a = 0) := by simp at h1; omega
    have hwd : IntKind.i64.wrap (((d + 1 + 1 : Nat) : Int) - 1) = ((d + 1 : Nat) : Int) := by rw [wrap_id (by omega)]; omega
    rw [condM, if_neg hnl]
    generalize nextV l a 5 = k at hkr hk
    repeat (first | refine wk hT rfl rfl ?_ | refine wd hT rfl rfl rfl ?_ | refine wz hT rfl ?_ | refine AWd_nil ?_ | refine AWk_nil ?_ | refine wh hT rfl rfl rfl rfl ?_ | refine wg hT rfl rfl rfl rfl rfl ?_ | refine AW_seq ?_ | refine AW_region ?_ | refine wx mixed ?_ | refine AW_block ?_ | refine AW_skip ?_ | refine AW_exit ?_ | refine AW_ret ?_)
    refine AW_condL rfl (fun h2 => ?_) (fun h2 => ?_)
    · have h2' : k = 2 := by simpa using h2
      rw [if_pos h2']
      have hi := ih d (by omega) 0 (nextA l a) (by omega) ha1
      generalize condM l d 0 (nextA l a) = p at hi
      obtain ⟨⟨ck, cc, cv, kids⟩, a'⟩ := p
      simp only at hi ⊢
      rw [← hwd] at hi
      repeat (first | refine wk hT rfl rfl ?_ | refine wd hT rfl rfl rfl ?_ | refine wz hT rfl ?_ | refine AWd_nil ?_ | refine AWk_nil ?_ | refine wh hT rfl rfl rfl rfl ?_ | refine wg hT rfl rfl rfl rfl rfl ?_ | refine AW_seq ?_ | refine AW_region ?_ | refine wx mixed ?_ | refine AW_block ?_ | refine AW_skip ?_ | refine AW_exit ?_ | refine AW_ret ?_)
      refine AWk_op (callS1 rfl rfl hi [0] (by decide) rfl rfl rfl rfl rfl (ren_cAV _ _) rfl) rfl ?_
      repeat (first | refine wk hT rfl rfl ?_ | refine wd hT rfl rfl rfl ?_ | refine wz hT rfl ?_ | refine AWd_nil ?_ | refine AWk_nil ?_ | refine wh hT rfl rfl rfl rfl ?_ | refine wg hT rfl rfl rfl rfl rfl ?_ | refine AW_seq ?_ | refine AW_region ?_ | refine wx mixed ?_ | refine AW_block ?_ | refine AW_skip ?_ | refine AW_exit ?_ | refine AW_ret ?_)
      refine ret_exact (r := cAV (.mk 2 0 0 [.mk ck cc cv kids])) rfl (AV.le.agg ⟨.refl _, .refl _, .refl _, AV.le.dat, trivial⟩) rfl rfl rfl rfl ⟨rfl, rfl⟩
    · have h2' : ¬ k = 2 := by simpa using h2
      rw [if_neg h2']
      simp only
      repeat (first | refine AW_exit ?_ | refine AW_skip ?_)
      refine AW_seq (AW_region ?_)
      repeat (first | refine wk hT rfl rfl ?_ | refine wd hT rfl rfl rfl ?_ | refine wz hT rfl ?_ | refine AWd_nil ?_ | refine AWk_nil ?_ | refine wh hT rfl rfl rfl rfl ?_ | refine wg hT rfl rfl rfl rfl rfl ?_)
      refine AW_seq_cut (ι := Unit) (fun _ => [(0, .ptr 0 0), (1, .d (.int .i64 ((d + 1 + 1 : Nat) : Int))), (2, .d (.int .i64 nt)), (6, .ptr 1 0), (8, .d (.int .i64 (if k = 4 then 4 else 3)))])
        (fun _ => [.row (dice l (nextA l a)), .row [.d (.int .i64 0), .d (.int .i64 0), .d (.int .i64 0), .sl 4 [] .full]]) (fun _ => True) ?_ (fun _ _ => ?_)
      · repeat (first | refine wk hT rfl rfl ?_ | refine wd hT rfl rfl rfl ?_ | refine wz hT rfl ?_ | refine AWd_nil ?_ | refine AWk_nil ?_ | refine wh hT rfl rfl rfl rfl ?_ | refine wg hT rfl rfl rfl rfl rfl ?_ | refine AW_seq ?_ | refine AW_region ?_ | refine wx mixed ?_ | refine AW_block ?_ | refine AW_skip ?_ | refine AW_exit ?_ | refine AW_ret ?_)
        refine AW_condL rfl (fun h3 => ?_) (fun h3 => ?_)
        · have h3' : k = 4 := by simpa using h3
          repeat (first | refine wk hT rfl rfl ?_ | refine wd hT rfl rfl rfl ?_ | refine wz hT rfl ?_ | refine AWd_nil ?_ | refine AWk_nil ?_ | refine wh hT rfl rfl rfl rfl ?_ | refine wg hT rfl rfl rfl rfl rfl ?_ | refine AW_seq ?_ | refine AW_region ?_ | refine wx mixed ?_ | refine AW_block ?_ | refine AW_skip ?_ | refine AW_exit ?_ | refine AW_ret ?_)
          exact ⟨(), trivial, ⟨.refl _, .refl _, .refl _, .refl _, AV.le.eq (by rw [if_pos h3']; rfl), trivial⟩, HLe.refl _⟩
        · have h3' : ¬ k = 4 := by simpa using h3
          repeat (first | refine wk hT rfl rfl ?_ | refine wd hT rfl rfl rfl ?_ | refine wz hT rfl ?_ | refine AWd_nil ?_ | refine AWk_nil ?_ | refine wh hT rfl rfl rfl rfl ?_ | refine wg hT rfl rfl rfl rfl rfl ?_ | refine AW_seq ?_ | refine AW_region ?_ | refine wx mixed ?_ | refine AW_block ?_ | refine AW_skip ?_ | refine AW_exit ?_ | refine AW_ret ?_)
          exact ⟨(), trivial, ⟨.refl _, .refl _, .refl _, .refl _, AV.le.eq (by rw [if_neg h3']; rfl), trivial⟩, HLe.refl _⟩
      generalize hk0 : (if k = 4 then (4 : Int) else 3) = k0
      have hk0r : k0 = 3 ∨ k0 = 4 := by rw [← hk0]; split <;> omega
      have hkm : kindM k nt = if k0 = nt then 7 - k0 else k0 := by unfold kindM; rw [hk0]
      refine AW_seq_cut (ι := Unit) (fun _ => [(0, .ptr 0 0), (1, .d (.int .i64 ((d + 1 + 1 : Nat) : Int))), (6, .ptr 1 0), (8, .d (.int .i64 (kindM k nt)))])
        (fun _ => [.row (dice l (nextA l a)), .row [.d (.int .i64 0), .d (.int .i64 0), .d (.int .i64 0), .sl 4 [] .full]]) (fun _ => True) ?_ (fun _ _ => ?_)
      · repeat (first | refine wk hT rfl rfl ?_ | refine wd hT rfl rfl rfl ?_ | refine wz hT rfl ?_ | refine AWd_nil ?_ | refine AWk_nil ?_ | refine wh hT rfl rfl rfl rfl ?_ | refine wg hT rfl rfl rfl rfl rfl ?_ | refine AW_seq ?_ | refine AW_region ?_ | refine wx mixed ?_ | refine AW_block ?_ | refine AW_skip ?_ | refine AW_exit ?_ | refine AW_ret ?_)
        refine AW_condL rfl (fun h3 => ?_) (fun h3 => ?_)
        · have h3' : k0 = nt := by simpa using h3
          have hw3 : IntKind.i64.wrap (7 - k0) = 7 - k0 := wrap_id (by omega)
          repeat (first | refine wk hT rfl rfl ?_ | refine wd hT rfl rfl rfl ?_ | refine wz hT rfl ?_ | refine AWd_nil ?_ | refine AWk_nil ?_ | refine wh hT rfl rfl rfl rfl ?_ | refine wg hT rfl rfl rfl rfl rfl ?_ | refine AW_seq ?_ | refine AW_region ?_ | refine wx mixed ?_ | refine AW_block ?_ | refine AW_skip ?_ | refine AW_exit ?_ | refine AW_ret ?_)
          exact ⟨(), trivial, ⟨.refl _, .refl _, .refl _, AV.le.eq (by rw [hkm, if_pos h3']; show AV.d (.int .i64 (IntKind.i64.wrap (7 - k0))) = _; rw [hw3]), trivial⟩, HLe.refl _⟩
        · have h3' : ¬ k0 = nt := by simpa using h3
          repeat (first | refine wk hT rfl rfl ?_ | refine wd hT rfl rfl rfl ?_ | refine wz hT rfl ?_ | refine AWd_nil ?_ | refine AWk_nil ?_ | refine wh hT rfl rfl rfl rfl ?_ | refine wg hT rfl rfl rfl rfl rfl ?_ | refine AW_seq ?_ | refine AW_region ?_ | refine wx mixed ?_ | refine AW_block ?_ | refine AW_skip ?_ | refine AW_exit ?_ | refine AW_ret ?_)
          exact ⟨(), trivial, ⟨.refl _, .refl _, .refl _, AV.le.eq (by rw [hkm, if_neg h3']; rfl), trivial⟩, HLe.refl _⟩
      generalize kindM k nt = kind
      have hf := kidsL_ok (fun a ha => condM_ok l d kind a ha)
      have hi := ih d (by omega) kind
      generalize condM l d kind = f at hf hi
      generalize hx : nextV l (nextA l a) 2 = x at hr3 hc3
      have hwx : IntKind.i64.wrap (2 + x) = (((2 + x).toNat : Nat) : Int) := by rw [wrap_id (by omega)]; omega
      have hm3 : (2 + x).toNat ≤ 3 := by omega
      generalize (2 + x).toNat = m0 at hwx hm3
      generalize hfin : kidsL f m0 [] (nextA l (nextA l a)) = fin
      repeat (first | refine wk hT rfl rfl ?_ | refine wd hT rfl rfl rfl ?_ | refine wz hT rfl ?_ | refine AWd_nil ?_ | refine AWk_nil ?_ | refine wh hT rfl rfl rfl rfl ?_ | refine wg hT rfl rfl rfl rfl rfl ?_ | refine AW_seq ?_ | refine AW_region ?_ | refine wx mixed ?_ | refine AW_block ?_ | refine AW_skip ?_ | refine AW_exit ?_ | refine AW_ret ?_)
      refine AWk_op (callS1 rfl rfl hc3 [0] (by decide) rfl rfl rfl rfl rfl rfl rfl) rfl ?_
      repeat (first | refine wk hT rfl rfl ?_ | refine wd hT rfl rfl rfl ?_ | refine wz hT rfl ?_ | refine AWd_nil ?_ | refine AWk_nil ?_ | refine wh hT rfl rfl rfl rfl ?_ | refine wg hT rfl rfl rfl rfl rfl ?_ | refine AW_seq ?_ | refine AW_region ?_ | refine wx mixed ?_ | refine AW_block ?_ | refine AW_skip ?_ | refine AW_exit ?_ | refine AW_ret ?_)
      refine AW_room (AW_acquireH 2 3 3 4 rfl rfl rfl ?_)
      refine AW_loopL (ι := List Cond × Nat × Nat) (fun x => [(0, .ptr 0 0), (1, .d (.int .i64 ((d + 1 + 1 : Nat) : Int))), (6, .ptr 1 0), (8, .d (.int .i64 kind)), (9, .ptr 2 0), (10, .d (.int .i64 (x.2.2 : Int)))])
        (fun x => [.row (dice l x.2.1), .row [.d (.int .i64 0), .d (.int .i64 0), .d (.int .i64 0), .sl 4 [] .full], .row [.d (.int .i64 kind), .d (.int .i64 0), .d (.int .i64 0), .sl 4 (encCs x.1) (.right 3)], .right 4 (encCs x.1).length])
        (fun x => x.2.1 ≤ l.length ∧ x.1.length + x.2.2 ≤ 3 ∧ kidsL f x.2.2 x.1 x.2.1 = fin) (fun x => x.2.2) ([], nextA l (nextA l a), m0) ⟨ha2, by simpa using hm3, hfin⟩
        ⟨.refl _, .refl _, .refl _, .refl _, .refl _, AV.le.eq (by show AV.d (.int .i64 (IntKind.i64.wrap (2 + x))) = _; rw [hwx]), trivial⟩ (HLe.refl _) ?_
      rintro ⟨acc, b, m⟩ ⟨j1, j2, j3⟩
      simp only at j1 j2 j3 ⊢
      have hlen := encCs_length acc
      repeat (first | refine wk hT rfl rfl ?_ | refine wd hT rfl rfl rfl ?_ | refine wz hT rfl ?_ | refine AWd_nil ?_ | refine AWk_nil ?_ | refine wh hT rfl rfl rfl rfl ?_ | refine wg hT rfl rfl rfl rfl rfl ?_ | refine AW_seq ?_ | refine AW_region ?_ | refine wx mixed ?_ | refine AW_block ?_ | refine AW_skip ?_ | refine AW_exit ?_ | refine AW_ret ?_)
      refine AW_condL rfl (fun h3 => ?_) (fun h3 => ?_)
      · obtain ⟨m, rfl⟩ : ∃ m', m = m' + 1 := ⟨m - 1, by simp at h3; omega⟩
        have hwm : IntKind.i64.wrap (((m + 1 : Nat) : Int) - 1) = (m : Int) := by rw [wrap_id (by omega)]; omega
        have hib := hi b (by omega) j1
        have hfb := hf 1 [] b j1 (fun c hc => by cases hc)
        rw [kidsL] at j3 hfb
        generalize f b = p at hib j3 hfb
        obtain ⟨⟨ck, cc, cv, kids⟩, b'⟩ := p
        simp only at hib j3 hfb
        have hb' : b' ≤ l.length := hfb.1
        rw [← hwd] at hib
        repeat (first | refine wk hT rfl rfl ?_ | refine wd hT rfl rfl rfl ?_ | refine wz hT rfl ?_ | refine AWd_nil ?_ | refine AWk_nil ?_ | refine wh hT rfl rfl rfl rfl ?_ | refine wg hT rfl rfl rfl rfl rfl ?_ | refine AW_seq ?_ | refine AW_region ?_ | refine AW_block ?_ | refine AW_skip ?_ | refine AW_exit ?_ | refine AW_ret ?_)
        refine AW_drawG (fun i => bif Nat.beq i 1 || Nat.beq i 10 then [2] else bif Nat.beq i 6 then [0] else bif Nat.beq i 8 then [3] else []) (fun i => bif Nat.beq i 10 then [2] else bif Nat.beq i 6 then [0] else bif Nat.beq i 8 then [3] else []) mixed (by kernel_rfl) ?_
        repeat (first | refine AWg_load hT rfl rfl rfl rfl (by first | exact List.mem_cons_self | exact sm) rfl ?_ | refine AWg_pure hT (fun _ => rfl) rfl rfl (by first | exact True.intro | omega | exact sd) ?_ | refine AWg_store hT rfl rfl rfl (by first | exact List.mem_cons_self | exact sm) rfl ?_ | refine AWd_nil ?_)
        refine AWg_op (v := cAV (.mk ck cc cv kids)) (os := [.row (dice l b')]) (fun hx hk1 hk2 => callS1 rfl rfl hib [0] (by decide) (by show [hx[0]?] = _; rw [hk2 0 List.mem_cons_self]; rfl) rfl rfl rfl rfl (ren_cAV _ _) rfl) rfl ?_
        refine AWg_op (os := []) (fun k hk1 hk2 => buildSl_ok hT rfl rfl) rfl ?_
        refine AWg_op (v := .sl 4 (encCs acc ++ encCs [.mk ck cc cv kids]) (.right 3)) (os := [.right 4 ((encCs acc).length + (encCs [.mk ck cc cv kids]).length)]) (fun hx hk1 hk2 => append_right (i := 3) hT rfl rfl rfl rfl ((hk2 3 List.mem_cons_self).trans rfl) rfl (by show ((encCs acc).length + (encCs [.mk ck cc cv kids]).length) * (48 + 1) ≤ 140737488355328; rw [encCs_length, encCs_length, List.length_singleton]; omega)) rfl ?_
        repeat (first | refine AWg_load hT rfl rfl rfl rfl (by first | exact List.mem_cons_self | exact sm) rfl ?_ | refine AWg_pure hT (fun _ => rfl) rfl rfl (by first | exact True.intro | omega | exact sd) ?_ | refine AWg_store hT rfl rfl rfl (by first | exact List.mem_cons_self | exact sm) rfl ?_ | refine AWd_nil ?_)
        repeat (first | refine wk hT rfl rfl ?_ | refine wd hT rfl rfl rfl ?_ | refine wz hT rfl ?_ | refine AWd_nil ?_ | refine AWk_nil ?_ | refine wh hT rfl rfl rfl rfl ?_ | refine wg hT rfl rfl rfl rfl rfl ?_ | refine AW_seq ?_ | refine AW_region ?_ | refine wx mixed ?_ | refine AW_block ?_ | refine AW_skip ?_ | refine AW_exit ?_ | refine AW_ret ?_)
        refine ⟨(acc ++ [.mk ck cc cv kids], b', m), ⟨hb', by simp only [List.length_append, List.length_singleton]; omega, j3⟩, by simp only; omega, ⟨.refl _, .refl _, .refl _, .refl _, .refl _, AV.le.eq (by show AV.d (.int .i64 (IntKind.i64.wrap (((m + 1 : Nat) : Int) - 1))) = _; rw [hwm]), trivial⟩, ⟨ObLe.refl _, ObLe.refl _, ⟨.refl _, .refl _, .refl _, AV.le.eq ?_, trivial⟩, ⟨rfl, ?_⟩, trivial⟩⟩
        · rw [encCs_append]
        · rw [encCs_append, List.length_append]
      · have hm0 : m = 0 := by simp at h3; omega
        subst hm0
        rw [kidsL] at j3
        subst j3
        repeat (first | refine wk hT rfl rfl ?_ | refine wd hT rfl rfl rfl ?_ | refine wz hT rfl ?_ | refine AWd_nil ?_ | refine AWk_nil ?_ | refine wh hT rfl rfl rfl rfl ?_ | refine wg hT rfl rfl rfl rfl rfl ?_ | refine AW_seq ?_ | refine AW_region ?_ | refine wx mixed ?_ | refine AW_block ?_ | refine AW_skip ?_ | refine AW_exit ?_ | refine AW_ret ?_)
        refine ret_exact (r := cAV (.mk kind 0 0 acc)) rfl (AV.le.agg ⟨.refl _, .refl _, .refl _, AV.le.dat, trivial⟩) rfl rfl rfl rfl ⟨rfl, rfl⟩
end Tdoc
/- Package traveldocmill: policies out of numbers. -/
set_option linter.unusedVariables false
set_option linter.unusedSimpArgs false
namespace Tdoc
open Go Go.Proofs

/-- The next rule, and how many numbers have been given out behind it. -/
def ruleM (l : List Int) (a : Nat) : Rule × Nat :=
  if nextV l (nextA l a) 5 = 4 then (.mk (1 + nextV l a 3) true (.mk 0 0 0 []), nextA l (nextA l a))
  else (.mk (1 + nextV l a 3) false (condM l 2 0 (nextA l (nextA l a))).1, (condM l 2 0 (nextA l (nextA l a))).2)
def polL (l : List Int) : Nat → List Rule → Nat → List Rule
  | 0, acc, _ => acc
  | m + 1, acc, a => polL l m (acc ++ [(ruleM l a).1]) (ruleM l a).2
def polM (l : List Int) : List Rule := polL l (nextV l 0 5 + 1).toNat [] (nextA l 0)

theorem ruleM_le {l : List Int} {a : Nat} (h : a ≤ l.length) : (ruleM l a).2 ≤ l.length := by
  unfold ruleM
  split
  · exact nextA_le (nextA_le h)
  · exact condM_wide l 2 0 _ (nextA_le (nextA_le h))
theorem polL_length (l : List Int) : ∀ (m : Nat) (acc : List Rule) (a : Nat), (polL l m acc a).length = acc.length + m
  | 0, acc, a => rfl
  | m + 1, acc, a => by rw [polL, polL_length l m]; simp; omega
theorem polM_length (l : List Int) : (polM l).length ≤ 5 := by
  have := nextV_range (l := l) (a := 0) (n := 5) (by omega)
  rw [polM, polL_length]; simp; omega

set_option maxHeartbeats 8000000 in
set_option maxRecDepth 100000 in
theorem Policy_spec (l : List Int) (hl : l.length ≤ 1000000) : Spec Try.prog 6 [.d (.sl 1 (numsD .i64 l))] [] (fun r h' => r = polAV (polM l) ∧ h' = []) := by
  have hroll := Roll_spec l hl
  have hn := Next_spec l 0 5 (by omega) hl (by omega)
  have hnr := nextV_range (l := l) (a := 0) (n := 5) (by omega)
  have hna := nextA_le (l := l) (a := 0) (by omega)
  generalize hfin : polM l = fin
  unfold polM at hfin
  generalize nextV l 0 5 = n0 at hn hnr hfin
  have hn0 : n0 = (((n0 + 1).toNat : Nat) : Int) - 1 := by omega
  generalize hm0 : (n0 + 1).toNat = m0 at hn0 hfin
  refine Spec_of_body hT Try.func6 rfl rfl rfl rfl ?_
  intro E hE
  refine AW_room ?_
  repeat (first | refine wk hT rfl rfl ?_ | refine wd hT rfl rfl rfl ?_ | refine wz hT rfl ?_ | refine AWd_nil ?_ | refine AWk_nil ?_ | refine wh hT rfl rfl rfl rfl ?_ | refine wg hT rfl rfl rfl rfl rfl ?_ | refine AW_seq ?_ | refine AW_region ?_ | refine wx mixed ?_ | refine AW_block ?_ | refine AW_skip ?_ | refine AW_exit ?_ | refine AW_ret ?_)
  refine AWk_opF (callS rfl rfl hroll [0] (by decide) rfl rfl rfl rfl rfl rfl) rfl rfl ?_
  repeat (first | refine wk hT rfl rfl ?_ | refine wd hT rfl rfl rfl ?_ | refine wz hT rfl ?_ | refine AWd_nil ?_ | refine AWk_nil ?_ | refine wh hT rfl rfl rfl rfl ?_ | refine wg hT rfl rfl rfl rfl rfl ?_ | refine AW_seq ?_ | refine AW_region ?_ | refine wx mixed ?_ | refine AW_block ?_ | refine AW_skip ?_ | refine AW_exit ?_ | refine AW_ret ?_)
  refine AWk_op (callS1 rfl rfl hn [0] (by decide) rfl rfl rfl rfl rfl rfl rfl) rfl ?_
  repeat (first | refine wk hT rfl rfl ?_ | refine wd hT rfl rfl rfl ?_ | refine wz hT rfl ?_ | refine AWd_nil ?_ | refine AWk_nil ?_ | refine wh hT rfl rfl rfl rfl ?_ | refine wg hT rfl rfl rfl rfl rfl ?_ | refine AW_seq ?_ | refine AW_region ?_ | refine wx mixed ?_ | refine AW_block ?_ | refine AW_skip ?_ | refine AW_exit ?_ | refine AW_ret ?_)
  refine AW_room (AW_acquireH 2 0 3 6 rfl rfl rfl ?_)
  refine AW_loopC (ι := List Rule × Nat × Nat) (fun x => [(2, .ptr 1 0), (3, .ptr 0 0), (4, .ptr 2 0), (5, .d (.int .i64 ((x.2.2 : Int) - 1)))])
    (fun x => [.row (dice l x.2.1), .row [.sl 6 [] .full], .row [.sl 6 (encRs x.1) (.right 3)], .right 6 (encRs x.1).length])
    (fun x => x.2.1 ≤ l.length ∧ x.1.length + x.2.2 ≤ 5 ∧ polL l x.2.2 x.1 x.2.1 = fin) (fun x => x.2.2) ([], nextA l 0, m0) ⟨hna, by simp; omega, hfin⟩
    ⟨.refl _, .refl _, .refl _, .int hn0, trivial⟩ (HLe.refl _) ?_
  rintro ⟨acc, a, m⟩ ⟨j1, j2, j3⟩
  simp only at j1 j2 j3 ⊢
  have hlen : (encRs acc).length = acc.length := by simp [encRs]
  have k0 := Next_spec l a 3 (by omega) hl j1
  have k1 := Next_spec l (nextA l a) 5 (by omega) hl (nextA_le j1)
  have ha2 := nextA_le (nextA_le j1)
  have hr0 := nextV_range (l := l) (a := a) (n := 3) (by omega)
  have hr1 := nextV_range (l := l) (a := nextA l a) (n := 5) (by omega)
  have kc := Cond_spec l hl 2 0 (nextA l (nextA l a)) (by omega) ha2
  have hcl := condM_wide l 2 0 _ ha2
  rw [show ((2 + 1 : Nat) : Int) = 3 from rfl] at kc
  repeat (first | refine wk hT rfl rfl ?_ | refine wd hT rfl rfl rfl ?_ | refine wz hT rfl ?_ | refine AWd_nil ?_ | refine AWk_nil ?_ | refine wh hT rfl rfl rfl rfl ?_ | refine wg hT rfl rfl rfl rfl rfl ?_ | refine AW_seq ?_ | refine AW_region ?_ | refine wx mixed ?_ | refine AW_block ?_ | refine AW_skip ?_ | refine AW_exit ?_ | refine AW_ret ?_)
  refine AW_condL rfl (fun h1 => ?_) (fun h1 => ?_)
  · have h1' : 1 ≤ m := by rw [hlen] at h1; simp at h1; omega
    obtain ⟨m, rfl⟩ : ∃ m', m = m' + 1 := ⟨m - 1, by omega⟩
    have hwm : IntKind.i64.wrap (((m + 1 : Nat) : Int) - 1 - 1) = (m : Int) - 1 := by rw [wrap_id (by omega)]; omega
    rw [polL] at j3
    unfold ruleM at j3
    have hw1 : IntKind.i64.wrap (1 + nextV l a 3) = 1 + nextV l a 3 := wrap_id (by omega)
    generalize nextV l a 3 = x0 at k0 hr0 j3 hw1
    generalize nextV l (nextA l a) 5 = x1 at k1 hr1 j3
    generalize nextA l (nextA l a) = a2 at ha2 k1 kc hcl j3
    generalize condM l 2 0 a2 = p at kc hcl j3
    obtain ⟨⟨ck, cc, cv, kids⟩, a3⟩ := p
    simp only at kc hcl j3
    repeat (first | refine wk hT rfl rfl ?_ | refine wd hT rfl rfl rfl ?_ | refine wz hT rfl ?_ | refine AWd_nil ?_ | refine AWk_nil ?_ | refine wh hT rfl rfl rfl rfl ?_ | refine wg hT rfl rfl rfl rfl rfl ?_ | refine AW_seq ?_ | refine AW_region ?_ | refine wx mixed ?_ | refine AW_block ?_ | refine AW_skip ?_ | refine AW_exit ?_ | refine AW_ret ?_)
    refine AWk_op (callS1 rfl rfl k0 [0] (by decide) rfl rfl rfl rfl rfl rfl rfl) rfl ?_
    repeat (first | refine wk hT rfl rfl ?_ | refine wd hT rfl rfl rfl ?_ | refine wz hT rfl ?_ | refine AWd_nil ?_ | refine AWk_nil ?_ | refine wh hT rfl rfl rfl rfl ?_ | refine wg hT rfl rfl rfl rfl rfl ?_ | refine AW_seq ?_ | refine AW_region ?_ | refine wx mixed ?_ | refine AW_block ?_ | refine AW_skip ?_ | refine AW_exit ?_ | refine AW_ret ?_)
    refine AWk_op (callS1 rfl rfl k1 [0] (by decide) rfl rfl rfl rfl rfl rfl rfl) rfl ?_
    repeat (first | refine wk hT rfl rfl ?_ | refine wd hT rfl rfl rfl ?_ | refine wz hT rfl ?_ | refine AWd_nil ?_ | refine AWk_nil ?_ | refine wh hT rfl rfl rfl rfl ?_ | refine wg hT rfl rfl rfl rfl rfl ?_ | refine AW_seq ?_ | refine AW_region ?_ | refine wx mixed ?_ | refine AW_block ?_ | refine AW_skip ?_ | refine AW_exit ?_ | refine AW_ret ?_)
    refine AW_condL rfl (fun h2 => ?_) (fun h2 => ?_)
    · have h2' : ¬ x1 = 4 := by simpa using h2
      rw [if_neg h2'] at j3
      repeat (first | refine wk hT rfl rfl ?_ | refine wd hT rfl rfl rfl ?_ | refine wz hT rfl ?_ | refine AWd_nil ?_ | refine AWk_nil ?_ | refine wh hT rfl rfl rfl rfl ?_ | refine wg hT rfl rfl rfl rfl rfl ?_ | refine AW_seq ?_ | refine AW_region ?_ | refine wx mixed ?_ | refine AW_block ?_ | refine AW_skip ?_ | refine AW_exit ?_ | refine AW_ret ?_)
      refine AWk_op (callS1 rfl rfl kc [0] (by decide) rfl rfl rfl rfl rfl (ren_cAV _ _) rfl) rfl ?_
      repeat (first | refine wk hT rfl rfl ?_ | refine wd hT rfl rfl rfl ?_ | refine wz hT rfl ?_ | refine AWd_nil ?_ | refine AWk_nil ?_ | refine wh hT rfl rfl rfl rfl ?_ | refine wg hT rfl rfl rfl rfl rfl ?_ | refine AW_seq ?_ | refine AW_region ?_ | refine wx mixed ?_ | refine AW_block ?_ | refine AW_skip ?_ | refine AW_exit ?_ | refine AW_ret ?_)
      refine AWk_op (append_right (i := 3) hT rfl rfl rfl rfl rfl rfl (by show ((encRs acc).length + 1) * (64 + 1) ≤ 140737488355328; rw [hlen]; omega)) rfl ?_
      repeat (first | refine wk hT rfl rfl ?_ | refine wd hT rfl rfl rfl ?_ | refine wz hT rfl ?_ | refine AWd_nil ?_ | refine AWk_nil ?_ | refine wh hT rfl rfl rfl rfl ?_ | refine wg hT rfl rfl rfl rfl rfl ?_ | refine AW_seq ?_ | refine AW_region ?_ | refine wx mixed ?_ | refine AW_block ?_ | refine AW_skip ?_ | refine AW_exit ?_ | refine AW_ret ?_)
      have hd : (x1 == 4) = false := by simpa using h2'
      refine ⟨(acc ++ [.mk (1 + x0) false (.mk ck cc cv kids)], a3, m), [_], ⟨hcl, by simp only [List.length_append, List.length_singleton]; omega, j3⟩, by simp only; omega, ⟨.refl _, .refl _, .refl _, .int hwm, trivial⟩, ⟨ObLe.refl _, ObLe.refl _, ?_, ?_, ObLe.refl _, trivial⟩, Env.below_mono hE (by simp), rfl, rfl⟩
      · rw [hw1, hd]; simp only [encRs_append]; exact ObLe.refl _
      · simp only [encRs_append, List.length_append]; exact ObLe.refl _
    · have h2' : x1 = 4 := by simpa using h2
      rw [if_pos h2'] at j3
      repeat (first | refine wk hT rfl rfl ?_ | refine wd hT rfl rfl rfl ?_ | refine wz hT rfl ?_ | refine AWd_nil ?_ | refine AWk_nil ?_ | refine wh hT rfl rfl rfl rfl ?_ | refine wg hT rfl rfl rfl rfl rfl ?_ | refine AW_seq ?_ | refine AW_region ?_ | refine wx mixed ?_ | refine AW_block ?_ | refine AW_skip ?_ | refine AW_exit ?_ | refine AW_ret ?_)
      refine AWk_op (append_right (i := 3) hT rfl rfl rfl rfl rfl rfl (by show ((encRs acc).length + 1) * (64 + 1) ≤ 140737488355328; rw [hlen]; omega)) rfl ?_
      repeat (first | refine wk hT rfl rfl ?_ | refine wd hT rfl rfl rfl ?_ | refine wz hT rfl ?_ | refine AWd_nil ?_ | refine AWk_nil ?_ | refine wh hT rfl rfl rfl rfl ?_ | refine wg hT rfl rfl rfl rfl rfl ?_ | refine AW_seq ?_ | refine AW_region ?_ | refine wx mixed ?_ | refine AW_block ?_ | refine AW_skip ?_ | refine AW_exit ?_ | refine AW_ret ?_)
      have hd : (x1 == 4) = true := by simpa using h2'
      refine ⟨(acc ++ [.mk (1 + x0) true (.mk 0 0 0 [])], a2, m), [_], ⟨ha2, by simp only [List.length_append, List.length_singleton]; omega, j3⟩, by simp only; omega, ⟨.refl _, .refl _, .refl _, .int hwm, trivial⟩, ⟨ObLe.refl _, ObLe.refl _, ?_, ?_, ObLe.refl _, trivial⟩, Env.below_mono hE (by simp), rfl, rfl⟩
      · rw [hw1, hd]; simp only [encRs_append]; exact ObLe.refl _
      · simp only [encRs_append, List.length_append]; exact ObLe.refl _
  · have hm : m = 0 := by rw [hlen] at h1; simp at h1; omega
    subst hm
    rw [polL] at j3
    subst j3
    repeat (first | refine wk hT rfl rfl ?_ | refine wd hT rfl rfl rfl ?_ | refine wz hT rfl ?_ | refine AWd_nil ?_ | refine AWk_nil ?_ | refine wh hT rfl rfl rfl rfl ?_ | refine wg hT rfl rfl rfl rfl rfl ?_ | refine AW_seq ?_ | refine AW_region ?_ | refine wx mixed ?_ | refine AW_block ?_ | refine AW_skip ?_ | refine AW_exit ?_ | refine AW_ret ?_)
    first | exact rx ⟨rfl, rfl⟩ | exact rxN ⟨rfl, rfl⟩ | (refine rq ⟨rfl, rfl⟩ rfl ?_; repeat (first | exact trivial | exact AV.le.refl _ | exact AV.le.dat | exact AV.le.nils | exact AV.le.nilsf | exact AV.le.any _ | exact ObLe.refl _ | exact ⟨rfl, rfl⟩ | refine AV.le.tup ?_ | refine AV.le.agg ?_ | exact li | exact lb | exact ls | exact lk | exact ld | exact lz | refine ⟨?_, ?_⟩)) | (refine rqN ⟨rfl, rfl⟩ rfl ?_; repeat (first | exact trivial | exact AV.le.refl _ | exact AV.le.dat | exact AV.le.nils | exact AV.le.nilsf | exact AV.le.any _ | exact ObLe.refl _ | exact ⟨rfl, rfl⟩ | refine AV.le.tup ?_ | refine AV.le.agg ?_ | exact li | exact lb | exact ls | exact lk | exact ld | exact lz | refine ⟨?_, ?_⟩))
end Tdoc
