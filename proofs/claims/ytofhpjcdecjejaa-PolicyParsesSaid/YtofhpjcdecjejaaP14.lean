/- The reference's parser: conditions. -/
import Derived.Test.YtofhpjcdecjejaaP13
set_option linter.unusedVariables false
set_option linter.unusedSimpArgs false
namespace Tdoc
open Go Go.Proofs

def RS.inc (s : RS) : RS := { s with i := s.i + 1 }

def loopR (ws : List Wd) (w : List UInt8) (part : RS → Cond × RS) : Nat → List Cond → RS → List Cond × RS
  | 0, l, s => (l, s)
  | m + 1, l, s => if s.bad < 0 ∧ peekR ws s = w then loopR ws w part m (l ++ [(part s.inc).1]) (part s.inc).2 else (l, s)

def seriesR (ws : List Wd) (kind : Int) (w : List UInt8) (part : RS → Cond × RS) (s : RS) : Cond × RS :=
  (joinR kind (loopR ws w part (ws.length + 1) [(part s).1] (part s).2).1, (loopR ws w part (ws.length + 1) [(part s).1] (part s).2).2)

def atomR (ws : List Wd) : Nat → RS → Cond × RS
  | 0, s => (.mk 0 0 0 [], s)
  | n + 1, s =>
    if 0 ≤ s.bad then (.mk 0 0 0 [], s)
    else if peekR ws s = notW then (.mk 2 0 0 [(atomR ws n s.inc).1], (atomR ws n s.inc).2)
    else if peekR ws s = lpW then ((seriesR ws 4 orW (seriesR ws 3 andW (atomR ws n)) s.inc).1, takeR ws (seriesR ws 4 orW (seriesR ws 3 andW (atomR ws n)) s.inc).2 rpW)
    else if sIdx chk (peekR ws s) + 1 = 0 then (.mk 0 0 0 [], failR ws s)
    else if peekR ws s.inc = isW then
      (.mk 1 (sIdx chk (peekR ws s) + 1) (sIdx vls (peekR ws s.inc.inc) + 1) [], (if sIdx vls (peekR ws s.inc.inc) + 1 = 0 then failR ws s.inc.inc else s.inc.inc).inc)
    else (.mk 1 (sIdx chk (peekR ws s) + 1) 1 [], s.inc)

def conjR (ws : List Wd) (n : Nat) : RS → Cond × RS := seriesR ws 3 andW (atomR ws n)
def condR' (ws : List Wd) (n : Nat) : RS → Cond × RS := seriesR ws 4 orW (conjR ws n)

theorem failR_i (ws : List Wd) (s : RS) : (failR ws s).i = s.i := by unfold failR; split <;> rfl
theorem takeR_i (ws : List Wd) (s : RS) (w : List UInt8) : (takeR ws s w).i = s.i + 1 := by unfold takeR; split <;> rfl
theorem peekR_lt {ws : List Wd} {s : RS} (h : peekR ws s ≠ []) : s.i < ws.length := by
  unfold peekR at h
  split at h
  · rename_i w hw; exact (List.getElem?_eq_some_iff.1 hw).1
  · exact absurd rfl h

structure POk (ws : List Wd) (n : Nat) (part : RS → Cond × RS) : Prop where
  inv : ∀ s, s.i ≤ ws.length → ws.length - s.i < n → s.i ≤ (part s).2.i ∧ (part s).2.i ≤ ws.length + n ∧ wideC (part s).1 ≤ 1 + ((part s).2.i - s.i)

/-- What a list of conditions keeps. -/
structure LOk (ws : List Wd) (kind : Int) (n b : Nat) (l : List Cond) (s : RS) : Prop where
  lo : b ≤ s.i
  hi : s.i ≤ ws.length + n
  len : l.length ≤ 1 + (s.i - b)
  flat : (flatL kind l).length ≤ 1 + (s.i - b)
  wide : ∀ c, c ∈ l → wideC c ≤ 1 + (s.i - b)

theorem LOk.one {ws : List Wd} {kind : Int} {n : Nat} {part : RS → Cond × RS} (hp : POk ws n part) {s : RS} (h : s.i ≤ ws.length) (hn : ws.length - s.i < n) : LOk ws kind n s.i [(part s).1] (part s).2 := by
  obtain ⟨k1, k2, k3⟩ := hp.inv s h hn
  have hf := flatC_len kind (part s).1
  refine ⟨k1, k2, by simp, by rw [flatL_one]; omega, fun c hc => ?_⟩
  rw [List.mem_singleton.1 hc]; exact k3

theorem LOk.more {ws : List Wd} {kind : Int} {n b : Nat} {part : RS → Cond × RS} (hp : POk ws n part) {l : List Cond} {s : RS} (h : LOk ws kind n b l s) (hlt : s.i < ws.length) (hn : ws.length - s.i < n + 1) :
    LOk ws kind n b (l ++ [(part s.inc).1]) (part s.inc).2 ∧ s.i < (part s.inc).2.i := by
  have hi : s.inc.i = s.i + 1 := rfl
  obtain ⟨k1, k2, k3⟩ := hp.inv s.inc (by omega) (by omega)
  have hf := flatC_len kind (part s.inc).1
  have := h.lo; have := h.len; have := h.flat
  refine ⟨⟨by omega, k2, by rw [List.length_append, List.length_singleton]; omega, by rw [flatL_append, flatL_one, List.length_append]; omega, fun c hc => ?_⟩, by omega⟩
  rcases List.mem_append.1 hc with hc | hc
  · have := h.wide c hc; omega
  · rw [List.mem_singleton.1 hc]; omega

theorem loopR_ok {ws : List Wd} {kind : Int} {n b : Nat} {part : RS → Cond × RS} (hp : POk ws n part) {w : List UInt8} (hw : w ≠ []) : ∀ (m : Nat) (l : List Cond) (s : RS), LOk ws kind n b l s → ws.length - s.i < n + 1 →
    LOk ws kind n b (loopR ws w part m l s).1 (loopR ws w part m l s).2
  | 0, l, s, h, hn => h
  | m + 1, l, s, h, hn => by
    unfold loopR
    split
    · rename_i hc
      have hlt := peekR_lt (ws := ws) (s := s) (by rw [hc.2]; exact hw)
      obtain ⟨h1, h2⟩ := h.more hp hlt hn
      exact loopR_ok hp hw m _ _ h1 (by omega)
    · exact h

theorem joinR_wide {ws : List Wd} {kind : Int} {n b : Nat} {l : List Cond} {s : RS} (h : LOk ws kind n b l s) : wideC (joinR kind l) ≤ 1 + (s.i - b) := by
  unfold joinR
  split
  · exact h.wide _ (by simp)
  · exact h.flat

theorem seriesR_ok {ws : List Wd} {n : Nat} {part : RS → Cond × RS} (hp : POk ws n part) (kind : Int) {w : List UInt8} (hw : w ≠ []) : POk ws n (seriesR ws kind w part) := by
  refine ⟨fun s h hn => ?_⟩
  have h1 := LOk.one (kind := kind) hp h hn
  have hlo := h1.lo
  have h2 := loopR_ok hp hw (ws.length + 1) _ _ h1 (by omega)
  exact ⟨h2.lo, h2.hi, joinR_wide h2⟩

theorem atomR_ok (ws : List Wd) : ∀ n, POk ws n (atomR ws n)
  | 0 => ⟨fun s _ hn => by omega⟩
  | n + 1 => by
    have ih := atomR_ok ws n
    refine ⟨fun s h hn => ?_⟩
    have hi : s.inc.i = s.i + 1 := rfl
    unfold atomR
    split
    · exact ⟨Nat.le_refl _, by simp only; omega, by simp only [wideC, List.length_nil]; omega⟩
    · split
      · rename_i hc
        have hlt := peekR_lt (ws := ws) (s := s) (by rw [hc]; decide)
        obtain ⟨q1, q2, q3⟩ := ih.inv s.inc (by omega) (by omega)
        exact ⟨by simp only; omega, by simp only; omega, by simp only [wideC, List.length_cons, List.length_nil]; omega⟩
      · split
        · rename_i hc
          have hlt := peekR_lt (ws := ws) (s := s) (by rw [hc]; decide)
          obtain ⟨q1, q2, q3⟩ := (seriesR_ok (seriesR_ok ih 3 (w := andW) (by decide)) 4 (w := orW) (by decide)).inv s.inc (by omega) (by omega)
          exact ⟨by simp only [takeR_i]; omega, by simp only [takeR_i]; omega, by simp only [takeR_i]; omega⟩
        · split
          · exact ⟨by simp only [failR_i]; omega, by simp only [failR_i]; omega, by simp only [wideC, List.length_nil]; omega⟩
          · rename_i hc
            have hlt := peekR_lt (ws := ws) (s := s) (by intro hz; rw [hz] at hc; exact hc (by decide))
            split
            · rename_i hc2
              have hlt2 := peekR_lt (ws := ws) (s := s.inc) (by rw [hc2]; decide)
              have e1 : ∀ x : RS, x.inc.i = x.i + 1 := fun _ => rfl
              refine ⟨?_, ?_, by simp only [wideC, List.length_nil]; omega⟩
              · simp only [e1]; split <;> simp only [failR_i, e1] <;> omega
              · simp only [e1]; split <;> simp only [failR_i, e1] <;> omega
            · exact ⟨by simp only; omega, by simp only; omega, by simp only [wideC, List.length_nil]; omega⟩

theorem conjR_ok (ws : List Wd) (n : Nat) : POk ws n (conjR ws n) := seriesR_ok (atomR_ok ws n) 3 (by decide)
theorem condR'_ok (ws : List Wd) (n : Nat) : POk ws n (condR' ws n) := seriesR_ok (conjR_ok ws n) 4 (by decide)

def PSpec (ws : List Wd) (n : Nat) (g : FuncId) (part : RS → Cond × RS) : Prop :=
  ∀ s, s.i ≤ ws.length → ws.length - s.i < n → Spec Try.prog g [.ptr 0 0] [.row (rsr ws s)] (fun r h' => r = cAV (part s).1 ∧ h' = [.row (rsr ws (part s).2)])

set_option maxHeartbeats 4000000 in
set_option maxRecDepth 100000 in
theorem conjR_spec {ws : List Wd} {n : Nat} (hl : ws.length ≤ 1000000) (hn1 : n ≤ 1000001) (HS : PSpec ws n 68 (atomR ws n)) : PSpec ws n 48 (conjR ws n) := by
  have hp := atomR_ok ws n
  intro s h hn
  have hS := HS s h hn
  have hl1 := LOk.one (kind := 3) hp h hn
  have hl1lo := hl1.lo
  unfold conjR seriesR
  generalize hfin : loopR ws andW (atomR ws n) (ws.length + 1) [(atomR ws n s).1] (atomR ws n s).2 = fin
  generalize atomR ws n s = ps at hS hl1 hl1lo hfin
  obtain ⟨⟨ck, cc, cv, kids⟩, s1⟩ := ps
  simp only at hS hl1 hl1lo hfin
  refine Spec_of_body hT Try.func48 rfl rfl rfl rfl ?_
  intro E hE
  repeat (first | refine AWd_step hT rfl rfl rfl (by first | exact True.intro | exact (fun hh => hh) | omega | assumption | (intro hh; simp [gval, hh]; done) | (simp; omega)) ?_ | refine AWk_step hT rfl rfl (by first | exact True.intro | exact (fun hh => hh) | omega | assumption | (intro hh; simp [gval, hh]; done) | (simp; omega)) ?_ | refine AWk_step0 hT rfl (by first | exact True.intro | exact (fun hh => hh) | omega | assumption | (intro hh; simp [gval, hh]; done) | (simp; omega)) ?_ | refine AWd_nil ?_ | refine AWk_nil ?_ | refine AWd_gstep hT rfl rfl rfl rfl rfl (fun hg => ⟨by (first | exact True.intro | exact ⟨hg, True.intro⟩ | exact ⟨hg, hg, True.intro⟩ | (refine ⟨?_, True.intro⟩; simp at hg; simp [hg]; done) | (refine ⟨?_, ?_, True.intro⟩ <;> (simp at hg; simp [hg]; done))), by (first | exact True.intro | (intro hh; simp [gval, hh, hg]; done) | (intro hh; simp only [gval, hh, hg, Bool.not_false, Bool.not_true, Bool.and_true, Bool.true_and]; done) | (intro hh; simp only [gval] at hg; simp only [gval, hh, hg, Bool.not_false, Bool.and_true, Bool.true_and]; done) | (simp [gval] at hg; first | omega | (simp; done) | (simp; omega)))⟩) ?_ | refine AWk_gstep hT rfl rfl rfl rfl (fun hg => ⟨by (first | exact True.intro | exact ⟨hg, True.intro⟩ | exact ⟨hg, hg, True.intro⟩ | (refine ⟨?_, True.intro⟩; simp at hg; simp [hg]; done) | (refine ⟨?_, ?_, True.intro⟩ <;> (simp at hg; simp [hg]; done))), by (first | exact True.intro | (intro hh; simp [gval, hh, hg]; done) | (intro hh; simp only [gval, hh, hg, Bool.not_false, Bool.not_true, Bool.and_true, Bool.true_and]; done) | (intro hh; simp only [gval] at hg; simp only [gval, hh, hg, Bool.not_false, Bool.and_true, Bool.true_and]; done) | (simp [gval] at hg; first | omega | (simp; done) | (simp; omega)))⟩) ?_ | refine AW_seq ?_ | refine AW_region ?_ | refine AW_draw mixed (by kernel_rfl) ?_ | refine AW_block ?_ | refine AW_skip ?_ | refine AW_exit ?_ | refine AW_ret ?_)
  refine AWk_op (callS1 rfl rfl hS [0] (by decide) rfl rfl rfl (lowH_rsr 0 _ _) (lowH_rsr 0 _ _) (ren_cAV _ _) rfl) rfl ?_
  repeat (first | refine AWd_step hT rfl rfl rfl (by first | exact True.intro | exact (fun hh => hh) | omega | assumption | (intro hh; simp [gval, hh]; done) | (simp; omega)) ?_ | refine AWk_step hT rfl rfl (by first | exact True.intro | exact (fun hh => hh) | omega | assumption | (intro hh; simp [gval, hh]; done) | (simp; omega)) ?_ | refine AWk_step0 hT rfl (by first | exact True.intro | exact (fun hh => hh) | omega | assumption | (intro hh; simp [gval, hh]; done) | (simp; omega)) ?_ | refine AWd_nil ?_ | refine AWk_nil ?_ | refine AWd_gstep hT rfl rfl rfl rfl rfl (fun hg => ⟨by (first | exact True.intro | exact ⟨hg, True.intro⟩ | exact ⟨hg, hg, True.intro⟩ | (refine ⟨?_, True.intro⟩; simp at hg; simp [hg]; done) | (refine ⟨?_, ?_, True.intro⟩ <;> (simp at hg; simp [hg]; done))), by (first | exact True.intro | (intro hh; simp [gval, hh, hg]; done) | (intro hh; simp only [gval, hh, hg, Bool.not_false, Bool.not_true, Bool.and_true, Bool.true_and]; done) | (intro hh; simp only [gval] at hg; simp only [gval, hh, hg, Bool.not_false, Bool.and_true, Bool.true_and]; done) | (simp [gval] at hg; first | omega | (simp; done) | (simp; omega)))⟩) ?_ | refine AWk_gstep hT rfl rfl rfl rfl (fun hg => ⟨by (first | exact True.intro | exact ⟨hg, True.intro⟩ | exact ⟨hg, hg, True.intro⟩ | (refine ⟨?_, True.intro⟩; simp at hg; simp [hg]; done) | (refine ⟨?_, ?_, True.intro⟩ <;> (simp at hg; simp [hg]; done))), by (first | exact True.intro | (intro hh; simp [gval, hh, hg]; done) | (intro hh; simp only [gval, hh, hg, Bool.not_false, Bool.not_true, Bool.and_true, Bool.true_and]; done) | (intro hh; simp only [gval] at hg; simp only [gval, hh, hg, Bool.not_false, Bool.and_true, Bool.true_and]; done) | (simp [gval] at hg; first | omega | (simp; done) | (simp; omega)))⟩) ?_ | refine AW_seq ?_ | refine AW_region ?_ | refine AW_draw mixed (by kernel_rfl) ?_ | refine AW_block ?_ | refine AW_skip ?_ | refine AW_exit ?_ | refine AW_ret ?_)
  refine AW_room (AW_acquireAt 3 4 2 (.inl rfl) rfl ?_)
  refine AW_loopL (ι := List Cond × RS) (fun x => [(0, .ptr 0 0), (2, .ptr 1 0), (3, .sl 4 (encCs x.1) (.right 2))])
    (fun x => [.row (rsr ws x.2), .row [.d (.int .i64 0), .d (.int .i64 0), .d (.int .i64 0), .sl 4 [] .full], .right 4 (encCs x.1).length])
    (fun x => LOk ws 3 n s.i x.1 x.2 ∧ ∃ m, ws.length - x.2.i < m ∧ loopR ws andW (atomR ws n) m x.1 x.2 = fin) (fun x => ws.length - x.2.i)
    ([.mk ck cc cv kids], s1) ⟨hl1, ws.length + 1, by simp only; omega, hfin⟩ ⟨.refl _, .refl _, .refl _, trivial⟩ (HLe.refl _) ?_
  rintro ⟨l, s2⟩ ⟨j1, m, j4, j5⟩
  simp only at j1 j4 j5 ⊢
  obtain ⟨m, rfl⟩ : ∃ m', m = m' + 1 := ⟨m - 1, by omega⟩
  rw [loopR] at j5
  have hpk := peek_spec ws s2
  have hplt := peekR_lt (ws := ws) (s := s2)
  generalize peekR ws s2 = pk at hpk hplt j5
  obtain ⟨i2, en2, bad2⟩ := s2
  simp only at j4 hplt
  repeat (first | refine AWd_step hT rfl rfl rfl (by first | exact True.intro | exact (fun hh => hh) | omega | assumption | (intro hh; simp [gval, hh]; done) | (simp; omega)) ?_ | refine AWk_step hT rfl rfl (by first | exact True.intro | exact (fun hh => hh) | omega | assumption | (intro hh; simp [gval, hh]; done) | (simp; omega)) ?_ | refine AWk_step0 hT rfl (by first | exact True.intro | exact (fun hh => hh) | omega | assumption | (intro hh; simp [gval, hh]; done) | (simp; omega)) ?_ | refine AWd_nil ?_ | refine AWk_nil ?_ | refine AWd_gstep hT rfl rfl rfl rfl rfl (fun hg => ⟨by (first | exact True.intro | exact ⟨hg, True.intro⟩ | exact ⟨hg, hg, True.intro⟩ | (refine ⟨?_, True.intro⟩; simp at hg; simp [hg]; done) | (refine ⟨?_, ?_, True.intro⟩ <;> (simp at hg; simp [hg]; done))), by (first | exact True.intro | (intro hh; simp [gval, hh, hg]; done) | (intro hh; simp only [gval, hh, hg, Bool.not_false, Bool.not_true, Bool.and_true, Bool.true_and]; done) | (intro hh; simp only [gval] at hg; simp only [gval, hh, hg, Bool.not_false, Bool.and_true, Bool.true_and]; done) | (simp [gval] at hg; first | omega | (simp; done) | (simp; omega)))⟩) ?_ | refine AWk_gstep hT rfl rfl rfl rfl (fun hg => ⟨by (first | exact True.intro | exact ⟨hg, True.intro⟩ | exact ⟨hg, hg, True.intro⟩ | (refine ⟨?_, True.intro⟩; simp at hg; simp [hg]; done) | (refine ⟨?_, ?_, True.intro⟩ <;> (simp at hg; simp [hg]; done))), by (first | exact True.intro | (intro hh; simp [gval, hh, hg]; done) | (intro hh; simp only [gval, hh, hg, Bool.not_false, Bool.not_true, Bool.and_true, Bool.true_and]; done) | (intro hh; simp only [gval] at hg; simp only [gval, hh, hg, Bool.not_false, Bool.and_true, Bool.true_and]; done) | (simp [gval] at hg; first | omega | (simp; done) | (simp; omega)))⟩) ?_ | refine AW_seq ?_ | refine AW_region ?_ | refine AW_draw mixed (by kernel_rfl) ?_ | refine AW_block ?_ | refine AW_skip ?_ | refine AW_exit ?_ | refine AW_ret ?_)
  refine AWk_gop rfl rfl rfl (fun hg => ⟨by first | exact True.intro | exact ⟨hg, True.intro⟩, callS1 rfl rfl hpk [0] (by decide) rfl rfl rfl rfl rfl rfl rfl⟩) ?_
  repeat (first | refine AWd_step hT rfl rfl rfl (by first | exact True.intro | exact (fun hh => hh) | omega | assumption | (intro hh; simp [gval, hh]; done) | (simp; omega)) ?_ | refine AWk_step hT rfl rfl (by first | exact True.intro | exact (fun hh => hh) | omega | assumption | (intro hh; simp [gval, hh]; done) | (simp; omega)) ?_ | refine AWk_step0 hT rfl (by first | exact True.intro | exact (fun hh => hh) | omega | assumption | (intro hh; simp [gval, hh]; done) | (simp; omega)) ?_ | refine AWd_nil ?_ | refine AWk_nil ?_ | refine AWd_gstep hT rfl rfl rfl rfl rfl (fun hg => ⟨by (first | exact True.intro | exact ⟨hg, True.intro⟩ | exact ⟨hg, hg, True.intro⟩ | (refine ⟨?_, True.intro⟩; simp at hg; simp [hg]; done) | (refine ⟨?_, ?_, True.intro⟩ <;> (simp at hg; simp [hg]; done))), by (first | exact True.intro | (intro hh; simp [gval, hh, hg]; done) | (intro hh; simp only [gval, hh, hg, Bool.not_false, Bool.not_true, Bool.and_true, Bool.true_and]; done) | (intro hh; simp only [gval] at hg; simp only [gval, hh, hg, Bool.not_false, Bool.and_true, Bool.true_and]; done) | (simp [gval] at hg; first | omega | (simp; done) | (simp; omega)))⟩) ?_ | refine AWk_gstep hT rfl rfl rfl rfl (fun hg => ⟨by (first | exact True.intro | exact ⟨hg, True.intro⟩ | exact ⟨hg, hg, True.intro⟩ | (refine ⟨?_, True.intro⟩; simp at hg; simp [hg]; done) | (refine ⟨?_, ?_, True.intro⟩ <;> (simp at hg; simp [hg]; done))), by (first | exact True.intro | (intro hh; simp [gval, hh, hg]; done) | (intro hh; simp only [gval, hh, hg, Bool.not_false, Bool.not_true, Bool.and_true, Bool.true_and]; done) | (intro hh; simp only [gval] at hg; simp only [gval, hh, hg, Bool.not_false, Bool.and_true, Bool.true_and]; done) | (simp [gval] at hg; first | omega | (simp; done) | (simp; omega)))⟩) ?_ | refine AW_seq ?_ | refine AW_region ?_ | refine AW_draw mixed (by kernel_rfl) ?_ | refine AW_block ?_ | refine AW_skip ?_ | refine AW_exit ?_ | refine AW_ret ?_)
  refine AW_condL rfl (fun h2 => ?_) (fun h2 => ?_)
  · have h2' : bad2 < 0 ∧ pk = andW := by simpa [andW, orW] using h2
    rw [if_pos h2'] at j5
    have hlt := hplt (by rw [h2'.2]; decide)
    have hlo := j1.lo
    simp only at hlo
    obtain ⟨k1, k2⟩ := j1.more hp hlt (by simp only; omega)
    have hS2 := HS (RS.inc ⟨i2, en2, bad2⟩) (by show i2 + 1 ≤ _; omega) (by show _ - (i2 + 1) < _; omega)
    generalize atomR ws n (RS.inc ⟨i2, en2, bad2⟩) = ps2 at hS2 k1 k2 j5
    obtain ⟨⟨dk, dc, dv, dkids⟩, s3⟩ := ps2
    simp only at hS2 k1 k2 j5
    have hwr : IntKind.i64.wrap ((i2 : Int) + 1) = ((i2 + 1 : Nat) : Int) := by rw [wrap_id (by omega)]; simp
    have hlen := j1.len
    simp only at hlen
    repeat (first | refine AWd_step hT rfl rfl rfl (by first | exact True.intro | exact (fun hh => hh) | omega | assumption | (intro hh; simp [gval, hh]; done) | (simp; omega)) ?_ | refine AWk_step hT rfl rfl (by first | exact True.intro | exact (fun hh => hh) | omega | assumption | (intro hh; simp [gval, hh]; done) | (simp; omega)) ?_ | refine AWk_step0 hT rfl (by first | exact True.intro | exact (fun hh => hh) | omega | assumption | (intro hh; simp [gval, hh]; done) | (simp; omega)) ?_ | refine AWd_nil ?_ | refine AWk_nil ?_ | refine AWd_gstep hT rfl rfl rfl rfl rfl (fun hg => ⟨by (first | exact True.intro | exact ⟨hg, True.intro⟩ | exact ⟨hg, hg, True.intro⟩ | (refine ⟨?_, True.intro⟩; simp at hg; simp [hg]; done) | (refine ⟨?_, ?_, True.intro⟩ <;> (simp at hg; simp [hg]; done))), by (first | exact True.intro | (intro hh; simp [gval, hh, hg]; done) | (intro hh; simp only [gval, hh, hg, Bool.not_false, Bool.not_true, Bool.and_true, Bool.true_and]; done) | (intro hh; simp only [gval] at hg; simp only [gval, hh, hg, Bool.not_false, Bool.and_true, Bool.true_and]; done) | (simp [gval] at hg; first | omega | (simp; done) | (simp; omega)))⟩) ?_ | refine AWk_gstep hT rfl rfl rfl rfl (fun hg => ⟨by (first | exact True.intro | exact ⟨hg, True.intro⟩ | exact ⟨hg, hg, True.intro⟩ | (refine ⟨?_, True.intro⟩; simp at hg; simp [hg]; done) | (refine ⟨?_, ?_, True.intro⟩ <;> (simp at hg; simp [hg]; done))), by (first | exact True.intro | (intro hh; simp [gval, hh, hg]; done) | (intro hh; simp only [gval, hh, hg, Bool.not_false, Bool.not_true, Bool.and_true, Bool.true_and]; done) | (intro hh; simp only [gval] at hg; simp only [gval, hh, hg, Bool.not_false, Bool.and_true, Bool.true_and]; done) | (simp [gval] at hg; first | omega | (simp; done) | (simp; omega)))⟩) ?_ | refine AW_seq ?_ | refine AW_region ?_ | refine AW_draw mixed (by kernel_rfl) ?_ | refine AW_block ?_ | refine AW_skip ?_ | refine AW_exit ?_ | refine AW_ret ?_)
    refine AWk_op (callS1 rfl rfl hS2 [0] (by decide) (by show [some (AObj.row [_, .d (.int .i64 (IntKind.i64.wrap ((i2 : Int) + 1))), _, _])] = _; rw [hwr]; rfl) rfl rfl (lowH_rsr 0 _ _) (lowH_rsr 0 _ _) (ren_cAV _ _) rfl) rfl ?_
    repeat (first | refine AWd_step hT rfl rfl rfl (by first | exact True.intro | exact (fun hh => hh) | omega | assumption | (intro hh; simp [gval, hh]; done) | (simp; omega)) ?_ | refine AWk_step hT rfl rfl (by first | exact True.intro | exact (fun hh => hh) | omega | assumption | (intro hh; simp [gval, hh]; done) | (simp; omega)) ?_ | refine AWk_step0 hT rfl (by first | exact True.intro | exact (fun hh => hh) | omega | assumption | (intro hh; simp [gval, hh]; done) | (simp; omega)) ?_ | refine AWd_nil ?_ | refine AWk_nil ?_ | refine AWd_gstep hT rfl rfl rfl rfl rfl (fun hg => ⟨by (first | exact True.intro | exact ⟨hg, True.intro⟩ | exact ⟨hg, hg, True.intro⟩ | (refine ⟨?_, True.intro⟩; simp at hg; simp [hg]; done) | (refine ⟨?_, ?_, True.intro⟩ <;> (simp at hg; simp [hg]; done))), by (first | exact True.intro | (intro hh; simp [gval, hh, hg]; done) | (intro hh; simp only [gval, hh, hg, Bool.not_false, Bool.not_true, Bool.and_true, Bool.true_and]; done) | (intro hh; simp only [gval] at hg; simp only [gval, hh, hg, Bool.not_false, Bool.and_true, Bool.true_and]; done) | (simp [gval] at hg; first | omega | (simp; done) | (simp; omega)))⟩) ?_ | refine AWk_gstep hT rfl rfl rfl rfl (fun hg => ⟨by (first | exact True.intro | exact ⟨hg, True.intro⟩ | exact ⟨hg, hg, True.intro⟩ | (refine ⟨?_, True.intro⟩; simp at hg; simp [hg]; done) | (refine ⟨?_, ?_, True.intro⟩ <;> (simp at hg; simp [hg]; done))), by (first | exact True.intro | (intro hh; simp [gval, hh, hg]; done) | (intro hh; simp only [gval, hh, hg, Bool.not_false, Bool.not_true, Bool.and_true, Bool.true_and]; done) | (intro hh; simp only [gval] at hg; simp only [gval, hh, hg, Bool.not_false, Bool.and_true, Bool.true_and]; done) | (simp [gval] at hg; first | omega | (simp; done) | (simp; omega)))⟩) ?_ | refine AW_seq ?_ | refine AW_region ?_ | refine AW_draw mixed (by kernel_rfl) ?_ | refine AW_block ?_ | refine AW_skip ?_ | refine AW_exit ?_ | refine AW_ret ?_)
    refine AWk_op (append_right (i := 2) hT rfl rfl rfl rfl rfl rfl (by show ((encCs l).length + 1) * (48 + 1) ≤ 140737488355328; rw [encCs_length]; omega)) rfl ?_
    repeat (first | refine AWd_step hT rfl rfl rfl (by first | exact True.intro | exact (fun hh => hh) | omega | assumption | (intro hh; simp [gval, hh]; done) | (simp; omega)) ?_ | refine AWk_step hT rfl rfl (by first | exact True.intro | exact (fun hh => hh) | omega | assumption | (intro hh; simp [gval, hh]; done) | (simp; omega)) ?_ | refine AWk_step0 hT rfl (by first | exact True.intro | exact (fun hh => hh) | omega | assumption | (intro hh; simp [gval, hh]; done) | (simp; omega)) ?_ | refine AWd_nil ?_ | refine AWk_nil ?_ | refine AWd_gstep hT rfl rfl rfl rfl rfl (fun hg => ⟨by (first | exact True.intro | exact ⟨hg, True.intro⟩ | exact ⟨hg, hg, True.intro⟩ | (refine ⟨?_, True.intro⟩; simp at hg; simp [hg]; done) | (refine ⟨?_, ?_, True.intro⟩ <;> (simp at hg; simp [hg]; done))), by (first | exact True.intro | (intro hh; simp [gval, hh, hg]; done) | (intro hh; simp only [gval, hh, hg, Bool.not_false, Bool.not_true, Bool.and_true, Bool.true_and]; done) | (intro hh; simp only [gval] at hg; simp only [gval, hh, hg, Bool.not_false, Bool.and_true, Bool.true_and]; done) | (simp [gval] at hg; first | omega | (simp; done) | (simp; omega)))⟩) ?_ | refine AWk_gstep hT rfl rfl rfl rfl (fun hg => ⟨by (first | exact True.intro | exact ⟨hg, True.intro⟩ | exact ⟨hg, hg, True.intro⟩ | (refine ⟨?_, True.intro⟩; simp at hg; simp [hg]; done) | (refine ⟨?_, ?_, True.intro⟩ <;> (simp at hg; simp [hg]; done))), by (first | exact True.intro | (intro hh; simp [gval, hh, hg]; done) | (intro hh; simp only [gval, hh, hg, Bool.not_false, Bool.not_true, Bool.and_true, Bool.true_and]; done) | (intro hh; simp only [gval] at hg; simp only [gval, hh, hg, Bool.not_false, Bool.and_true, Bool.true_and]; done) | (simp [gval] at hg; first | omega | (simp; done) | (simp; omega)))⟩) ?_ | refine AW_seq ?_ | refine AW_region ?_ | refine AW_draw mixed (by kernel_rfl) ?_ | refine AW_block ?_ | refine AW_skip ?_ | refine AW_exit ?_ | refine AW_ret ?_)
    refine ⟨(l ++ [.mk dk dc dv dkids], s3), ⟨k1, m, by simp only; omega, j5⟩, by simp only; omega, ⟨.refl _, .refl _, AV.le.eq ?_, trivial⟩, ⟨ObLe.refl _, ObLe.refl _, ⟨rfl, ?_⟩, trivial⟩⟩
    · rw [encCs_append]; rfl
    · rw [encCs_append, List.length_append]; rfl
  · have h2' : ¬ (bad2 < 0 ∧ pk = andW) := by simpa [andW, orW] using h2
    rw [if_neg h2'] at j5
    subst j5
    have hhi := j1.hi; have hll := j1.len; have hff := j1.flat
    simp only at hhi hll hff
    have hj := join_spec 3 l (by omega) (by omega)
    generalize joinR 3 l = jc at hj ⊢
    obtain ⟨jk, jch, jv, jkids⟩ := jc
    repeat (first | refine AW_exit ?_ | refine AW_skip ?_)
    refine AW_subL (l := [(0, .ptr 0 0), (2, .ptr 1 0), (3, .d (.sl 4 (encCs l)))]) (h' := [.row (rsr ws ⟨i2, en2, bad2⟩), .row [.d (.int .i64 0), .d (.int .i64 0), .d (.int .i64 0), .sl 4 [] .full], .dead]) ⟨.refl _, .refl _, AV.le.dat, trivial⟩ ⟨ObLe.refl _, ObLe.refl _, trivial, trivial⟩ ?_
    repeat (first | refine AWd_step hT rfl rfl rfl (by first | exact True.intro | exact (fun hh => hh) | omega | assumption | (intro hh; simp [gval, hh]; done) | (simp; omega)) ?_ | refine AWk_step hT rfl rfl (by first | exact True.intro | exact (fun hh => hh) | omega | assumption | (intro hh; simp [gval, hh]; done) | (simp; omega)) ?_ | refine AWk_step0 hT rfl (by first | exact True.intro | exact (fun hh => hh) | omega | assumption | (intro hh; simp [gval, hh]; done) | (simp; omega)) ?_ | refine AWd_nil ?_ | refine AWk_nil ?_ | refine AWd_gstep hT rfl rfl rfl rfl rfl (fun hg => ⟨by (first | exact True.intro | exact ⟨hg, True.intro⟩ | exact ⟨hg, hg, True.intro⟩ | (refine ⟨?_, True.intro⟩; simp at hg; simp [hg]; done) | (refine ⟨?_, ?_, True.intro⟩ <;> (simp at hg; simp [hg]; done))), by (first | exact True.intro | (intro hh; simp [gval, hh, hg]; done) | (intro hh; simp only [gval, hh, hg, Bool.not_false, Bool.not_true, Bool.and_true, Bool.true_and]; done) | (intro hh; simp only [gval] at hg; simp only [gval, hh, hg, Bool.not_false, Bool.and_true, Bool.true_and]; done) | (simp [gval] at hg; first | omega | (simp; done) | (simp; omega)))⟩) ?_ | refine AWk_gstep hT rfl rfl rfl rfl (fun hg => ⟨by (first | exact True.intro | exact ⟨hg, True.intro⟩ | exact ⟨hg, hg, True.intro⟩ | (refine ⟨?_, True.intro⟩; simp at hg; simp [hg]; done) | (refine ⟨?_, ?_, True.intro⟩ <;> (simp at hg; simp [hg]; done))), by (first | exact True.intro | (intro hh; simp [gval, hh, hg]; done) | (intro hh; simp only [gval, hh, hg, Bool.not_false, Bool.not_true, Bool.and_true, Bool.true_and]; done) | (intro hh; simp only [gval] at hg; simp only [gval, hh, hg, Bool.not_false, Bool.and_true, Bool.true_and]; done) | (simp [gval] at hg; first | omega | (simp; done) | (simp; omega)))⟩) ?_ | refine AW_seq ?_ | refine AW_region ?_ | refine AW_draw mixed (by kernel_rfl) ?_ | refine AW_block ?_ | refine AW_skip ?_ | refine AW_exit ?_ | refine AW_ret ?_)
    refine AWk_op (callS0 rfl rfl hj rfl rfl rfl) rfl ?_
    repeat (first | refine AWd_step hT rfl rfl rfl (by first | exact True.intro | exact (fun hh => hh) | omega | assumption | (intro hh; simp [gval, hh]; done) | (simp; omega)) ?_ | refine AWk_step hT rfl rfl (by first | exact True.intro | exact (fun hh => hh) | omega | assumption | (intro hh; simp [gval, hh]; done) | (simp; omega)) ?_ | refine AWk_step0 hT rfl (by first | exact True.intro | exact (fun hh => hh) | omega | assumption | (intro hh; simp [gval, hh]; done) | (simp; omega)) ?_ | refine AWd_nil ?_ | refine AWk_nil ?_ | refine AWd_gstep hT rfl rfl rfl rfl rfl (fun hg => ⟨by (first | exact True.intro | exact ⟨hg, True.intro⟩ | exact ⟨hg, hg, True.intro⟩ | (refine ⟨?_, True.intro⟩; simp at hg; simp [hg]; done) | (refine ⟨?_, ?_, True.intro⟩ <;> (simp at hg; simp [hg]; done))), by (first | exact True.intro | (intro hh; simp [gval, hh, hg]; done) | (intro hh; simp only [gval, hh, hg, Bool.not_false, Bool.not_true, Bool.and_true, Bool.true_and]; done) | (intro hh; simp only [gval] at hg; simp only [gval, hh, hg, Bool.not_false, Bool.and_true, Bool.true_and]; done) | (simp [gval] at hg; first | omega | (simp; done) | (simp; omega)))⟩) ?_ | refine AWk_gstep hT rfl rfl rfl rfl (fun hg => ⟨by (first | exact True.intro | exact ⟨hg, True.intro⟩ | exact ⟨hg, hg, True.intro⟩ | (refine ⟨?_, True.intro⟩; simp at hg; simp [hg]; done) | (refine ⟨?_, ?_, True.intro⟩ <;> (simp at hg; simp [hg]; done))), by (first | exact True.intro | (intro hh; simp [gval, hh, hg]; done) | (intro hh; simp only [gval, hh, hg, Bool.not_false, Bool.not_true, Bool.and_true, Bool.true_and]; done) | (intro hh; simp only [gval] at hg; simp only [gval, hh, hg, Bool.not_false, Bool.and_true, Bool.true_and]; done) | (simp [gval] at hg; first | omega | (simp; done) | (simp; omega)))⟩) ?_ | refine AW_seq ?_ | refine AW_region ?_ | refine AW_draw mixed (by kernel_rfl) ?_ | refine AW_block ?_ | refine AW_skip ?_ | refine AW_exit ?_ | refine AW_ret ?_)
    exact ret_exact (r := cAV (.mk jk jch jv jkids)) rfl (.refl _) rfl rfl rfl rfl ⟨rfl, rfl⟩

set_option maxHeartbeats 4000000 in
set_option maxRecDepth 100000 in
theorem condR'_spec {ws : List Wd} {n : Nat} (hl : ws.length ≤ 1000000) (hn1 : n ≤ 1000001) (HS : PSpec ws n 48 (conjR ws n)) : PSpec ws n 29 (condR' ws n) := by
  have hp := conjR_ok ws n
  intro s h hn
  have hS := HS s h hn
  have hl1 := LOk.one (kind := 4) hp h hn
  have hl1lo := hl1.lo
  unfold condR' seriesR
  generalize hfin : loopR ws orW (conjR ws n) (ws.length + 1) [(conjR ws n s).1] (conjR ws n s).2 = fin
  generalize conjR ws n s = ps at hS hl1 hl1lo hfin
  obtain ⟨⟨ck, cc, cv, kids⟩, s1⟩ := ps
  simp only at hS hl1 hl1lo hfin
  refine Spec_of_body hT Try.func29 rfl rfl rfl rfl ?_
  intro E hE
  repeat (first | refine AWd_step hT rfl rfl rfl (by first | exact True.intro | exact (fun hh => hh) | omega | assumption | (intro hh; simp [gval, hh]; done) | (simp; omega)) ?_ | refine AWk_step hT rfl rfl (by first | exact True.intro | exact (fun hh => hh) | omega | assumption | (intro hh; simp [gval, hh]; done) | (simp; omega)) ?_ | refine AWk_step0 hT rfl (by first | exact True.intro | exact (fun hh => hh) | omega | assumption | (intro hh; simp [gval, hh]; done) | (simp; omega)) ?_ | refine AWd_nil ?_ | refine AWk_nil ?_ | refine AWd_gstep hT rfl rfl rfl rfl rfl (fun hg => ⟨by (first | exact True.intro | exact ⟨hg, True.intro⟩ | exact ⟨hg, hg, True.intro⟩ | (refine ⟨?_, True.intro⟩; simp at hg; simp [hg]; done) | (refine ⟨?_, ?_, True.intro⟩ <;> (simp at hg; simp [hg]; done))), by (first | exact True.intro | (intro hh; simp [gval, hh, hg]; done) | (intro hh; simp only [gval, hh, hg, Bool.not_false, Bool.not_true, Bool.and_true, Bool.true_and]; done) | (intro hh; simp only [gval] at hg; simp only [gval, hh, hg, Bool.not_false, Bool.and_true, Bool.true_and]; done) | (simp [gval] at hg; first | omega | (simp; done) | (simp; omega)))⟩) ?_ | refine AWk_gstep hT rfl rfl rfl rfl (fun hg => ⟨by (first | exact True.intro | exact ⟨hg, True.intro⟩ | exact ⟨hg, hg, True.intro⟩ | (refine ⟨?_, True.intro⟩; simp at hg; simp [hg]; done) | (refine ⟨?_, ?_, True.intro⟩ <;> (simp at hg; simp [hg]; done))), by (first | exact True.intro | (intro hh; simp [gval, hh, hg]; done) | (intro hh; simp only [gval, hh, hg, Bool.not_false, Bool.not_true, Bool.and_true, Bool.true_and]; done) | (intro hh; simp only [gval] at hg; simp only [gval, hh, hg, Bool.not_false, Bool.and_true, Bool.true_and]; done) | (simp [gval] at hg; first | omega | (simp; done) | (simp; omega)))⟩) ?_ | refine AW_seq ?_ | refine AW_region ?_ | refine AW_draw mixed (by kernel_rfl) ?_ | refine AW_block ?_ | refine AW_skip ?_ | refine AW_exit ?_ | refine AW_ret ?_)
  refine AWk_op (callS1 rfl rfl hS [0] (by decide) rfl rfl rfl (lowH_rsr 0 _ _) (lowH_rsr 0 _ _) (ren_cAV _ _) rfl) rfl ?_
  repeat (first | refine AWd_step hT rfl rfl rfl (by first | exact True.intro | exact (fun hh => hh) | omega | assumption | (intro hh; simp [gval, hh]; done) | (simp; omega)) ?_ | refine AWk_step hT rfl rfl (by first | exact True.intro | exact (fun hh => hh) | omega | assumption | (intro hh; simp [gval, hh]; done) | (simp; omega)) ?_ | refine AWk_step0 hT rfl (by first | exact True.intro | exact (fun hh => hh) | omega | assumption | (intro hh; simp [gval, hh]; done) | (simp; omega)) ?_ | refine AWd_nil ?_ | refine AWk_nil ?_ | refine AWd_gstep hT rfl rfl rfl rfl rfl (fun hg => ⟨by (first | exact True.intro | exact ⟨hg, True.intro⟩ | exact ⟨hg, hg, True.intro⟩ | (refine ⟨?_, True.intro⟩; simp at hg; simp [hg]; done) | (refine ⟨?_, ?_, True.intro⟩ <;> (simp at hg; simp [hg]; done))), by (first | exact True.intro | (intro hh; simp [gval, hh, hg]; done) | (intro hh; simp only [gval, hh, hg, Bool.not_false, Bool.not_true, Bool.and_true, Bool.true_and]; done) | (intro hh; simp only [gval] at hg; simp only [gval, hh, hg, Bool.not_false, Bool.and_true, Bool.true_and]; done) | (simp [gval] at hg; first | omega | (simp; done) | (simp; omega)))⟩) ?_ | refine AWk_gstep hT rfl rfl rfl rfl (fun hg => ⟨by (first | exact True.intro | exact ⟨hg, True.intro⟩ | exact ⟨hg, hg, True.intro⟩ | (refine ⟨?_, True.intro⟩; simp at hg; simp [hg]; done) | (refine ⟨?_, ?_, True.intro⟩ <;> (simp at hg; simp [hg]; done))), by (first | exact True.intro | (intro hh; simp [gval, hh, hg]; done) | (intro hh; simp only [gval, hh, hg, Bool.not_false, Bool.not_true, Bool.and_true, Bool.true_and]; done) | (intro hh; simp only [gval] at hg; simp only [gval, hh, hg, Bool.not_false, Bool.and_true, Bool.true_and]; done) | (simp [gval] at hg; first | omega | (simp; done) | (simp; omega)))⟩) ?_ | refine AW_seq ?_ | refine AW_region ?_ | refine AW_draw mixed (by kernel_rfl) ?_ | refine AW_block ?_ | refine AW_skip ?_ | refine AW_exit ?_ | refine AW_ret ?_)
  refine AW_room (AW_acquireAt 3 4 2 (.inl rfl) rfl ?_)
  refine AW_loopL (ι := List Cond × RS) (fun x => [(0, .ptr 0 0), (2, .ptr 1 0), (3, .sl 4 (encCs x.1) (.right 2))])
    (fun x => [.row (rsr ws x.2), .row [.d (.int .i64 0), .d (.int .i64 0), .d (.int .i64 0), .sl 4 [] .full], .right 4 (encCs x.1).length])
    (fun x => LOk ws 4 n s.i x.1 x.2 ∧ ∃ m, ws.length - x.2.i < m ∧ loopR ws orW (conjR ws n) m x.1 x.2 = fin) (fun x => ws.length - x.2.i)
    ([.mk ck cc cv kids], s1) ⟨hl1, ws.length + 1, by simp only; omega, hfin⟩ ⟨.refl _, .refl _, .refl _, trivial⟩ (HLe.refl _) ?_
  rintro ⟨l, s2⟩ ⟨j1, m, j4, j5⟩
  simp only at j1 j4 j5 ⊢
  obtain ⟨m, rfl⟩ : ∃ m', m = m' + 1 := ⟨m - 1, by omega⟩
  rw [loopR] at j5
  have hpk := peek_spec ws s2
  have hplt := peekR_lt (ws := ws) (s := s2)
  generalize peekR ws s2 = pk at hpk hplt j5
  obtain ⟨i2, en2, bad2⟩ := s2
  simp only at j4 hplt
  repeat (first | refine AWd_step hT rfl rfl rfl (by first | exact True.intro | exact (fun hh => hh) | omega | assumption | (intro hh; simp [gval, hh]; done) | (simp; omega)) ?_ | refine AWk_step hT rfl rfl (by first | exact True.intro | exact (fun hh => hh) | omega | assumption | (intro hh; simp [gval, hh]; done) | (simp; omega)) ?_ | refine AWk_step0 hT rfl (by first | exact True.intro | exact (fun hh => hh) | omega | assumption | (intro hh; simp [gval, hh]; done) | (simp; omega)) ?_ | refine AWd_nil ?_ | refine AWk_nil ?_ | refine AWd_gstep hT rfl rfl rfl rfl rfl (fun hg => ⟨by (first | exact True.intro | exact ⟨hg, True.intro⟩ | exact ⟨hg, hg, True.intro⟩ | (refine ⟨?_, True.intro⟩; simp at hg; simp [hg]; done) | (refine ⟨?_, ?_, True.intro⟩ <;> (simp at hg; simp [hg]; done))), by (first | exact True.intro | (intro hh; simp [gval, hh, hg]; done) | (intro hh; simp only [gval, hh, hg, Bool.not_false, Bool.not_true, Bool.and_true, Bool.true_and]; done) | (intro hh; simp only [gval] at hg; simp only [gval, hh, hg, Bool.not_false, Bool.and_true, Bool.true_and]; done) | (simp [gval] at hg; first | omega | (simp; done) | (simp; omega)))⟩) ?_ | refine AWk_gstep hT rfl rfl rfl rfl (fun hg => ⟨by (first | exact True.intro | exact ⟨hg, True.intro⟩ | exact ⟨hg, hg, True.intro⟩ | (refine ⟨?_, True.intro⟩; simp at hg; simp [hg]; done) | (refine ⟨?_, ?_, True.intro⟩ <;> (simp at hg; simp [hg]; done))), by (first | exact True.intro | (intro hh; simp [gval, hh, hg]; done) | (intro hh; simp only [gval, hh, hg, Bool.not_false, Bool.not_true, Bool.and_true, Bool.true_and]; done) | (intro hh; simp only [gval] at hg; simp only [gval, hh, hg, Bool.not_false, Bool.and_true, Bool.true_and]; done) | (simp [gval] at hg; first | omega | (simp; done) | (simp; omega)))⟩) ?_ | refine AW_seq ?_ | refine AW_region ?_ | refine AW_draw mixed (by kernel_rfl) ?_ | refine AW_block ?_ | refine AW_skip ?_ | refine AW_exit ?_ | refine AW_ret ?_)
  refine AWk_gop rfl rfl rfl (fun hg => ⟨by first | exact True.intro | exact ⟨hg, True.intro⟩, callS1 rfl rfl hpk [0] (by decide) rfl rfl rfl rfl rfl rfl rfl⟩) ?_
  repeat (first | refine AWd_step hT rfl rfl rfl (by first | exact True.intro | exact (fun hh => hh) | omega | assumption | (intro hh; simp [gval, hh]; done) | (simp; omega)) ?_ | refine AWk_step hT rfl rfl (by first | exact True.intro | exact (fun hh => hh) | omega | assumption | (intro hh; simp [gval, hh]; done) | (simp; omega)) ?_ | refine AWk_step0 hT rfl (by first | exact True.intro | exact (fun hh => hh) | omega | assumption | (intro hh; simp [gval, hh]; done) | (simp; omega)) ?_ | refine AWd_nil ?_ | refine AWk_nil ?_ | refine AWd_gstep hT rfl rfl rfl rfl rfl (fun hg => ⟨by (first | exact True.intro | exact ⟨hg, True.intro⟩ | exact ⟨hg, hg, True.intro⟩ | (refine ⟨?_, True.intro⟩; simp at hg; simp [hg]; done) | (refine ⟨?_, ?_, True.intro⟩ <;> (simp at hg; simp [hg]; done))), by (first | exact True.intro | (intro hh; simp [gval, hh, hg]; done) | (intro hh; simp only [gval, hh, hg, Bool.not_false, Bool.not_true, Bool.and_true, Bool.true_and]; done) | (intro hh; simp only [gval] at hg; simp only [gval, hh, hg, Bool.not_false, Bool.and_true, Bool.true_and]; done) | (simp [gval] at hg; first | omega | (simp; done) | (simp; omega)))⟩) ?_ | refine AWk_gstep hT rfl rfl rfl rfl (fun hg => ⟨by (first | exact True.intro | exact ⟨hg, True.intro⟩ | exact ⟨hg, hg, True.intro⟩ | (refine ⟨?_, True.intro⟩; simp at hg; simp [hg]; done) | (refine ⟨?_, ?_, True.intro⟩ <;> (simp at hg; simp [hg]; done))), by (first | exact True.intro | (intro hh; simp [gval, hh, hg]; done) | (intro hh; simp only [gval, hh, hg, Bool.not_false, Bool.not_true, Bool.and_true, Bool.true_and]; done) | (intro hh; simp only [gval] at hg; simp only [gval, hh, hg, Bool.not_false, Bool.and_true, Bool.true_and]; done) | (simp [gval] at hg; first | omega | (simp; done) | (simp; omega)))⟩) ?_ | refine AW_seq ?_ | refine AW_region ?_ | refine AW_draw mixed (by kernel_rfl) ?_ | refine AW_block ?_ | refine AW_skip ?_ | refine AW_exit ?_ | refine AW_ret ?_)
  refine AW_condL rfl (fun h2 => ?_) (fun h2 => ?_)
  · have h2' : bad2 < 0 ∧ pk = orW := by simpa [andW, orW] using h2
    rw [if_pos h2'] at j5
    have hlt := hplt (by rw [h2'.2]; decide)
    have hlo := j1.lo
    simp only at hlo
    obtain ⟨k1, k2⟩ := j1.more hp hlt (by simp only; omega)
    have hS2 := HS (RS.inc ⟨i2, en2, bad2⟩) (by show i2 + 1 ≤ _; omega) (by show _ - (i2 + 1) < _; omega)
    generalize conjR ws n (RS.inc ⟨i2, en2, bad2⟩) = ps2 at hS2 k1 k2 j5
    obtain ⟨⟨dk, dc, dv, dkids⟩, s3⟩ := ps2
    simp only at hS2 k1 k2 j5
    have hwr : IntKind.i64.wrap ((i2 : Int) + 1) = ((i2 + 1 : Nat) : Int) := by rw [wrap_id (by omega)]; simp
    have hlen := j1.len
    simp only at hlen
    repeat (first | refine AWd_step hT rfl rfl rfl (by first | exact True.intro | exact (fun hh => hh) | omega | assumption | (intro hh; simp [gval, hh]; done) | (simp; omega)) ?_ | refine AWk_step hT rfl rfl (by first | exact True.intro | exact (fun hh => hh) | omega | assumption | (intro hh; simp [gval, hh]; done) | (simp; omega)) ?_ | refine AWk_step0 hT rfl (by first | exact True.intro | exact (fun hh => hh) | omega | assumption | (intro hh; simp [gval, hh]; done) | (simp; omega)) ?_ | refine AWd_nil ?_ | refine AWk_nil ?_ | refine AWd_gstep hT rfl rfl rfl rfl rfl (fun hg => ⟨by (first | exact True.intro | exact ⟨hg, True.intro⟩ | exact ⟨hg, hg, True.intro⟩ | (refine ⟨?_, True.intro⟩; simp at hg; simp [hg]; done) | (refine ⟨?_, ?_, True.intro⟩ <;> (simp at hg; simp [hg]; done))), by (first | exact True.intro | (intro hh; simp [gval, hh, hg]; done) | (intro hh; simp only [gval, hh, hg, Bool.not_false, Bool.not_true, Bool.and_true, Bool.true_and]; done) | (intro hh; simp only [gval] at hg; simp only [gval, hh, hg, Bool.not_false, Bool.and_true, Bool.true_and]; done) | (simp [gval] at hg; first | omega | (simp; done) | (simp; omega)))⟩) ?_ | refine AWk_gstep hT rfl rfl rfl rfl (fun hg => ⟨by (first | exact True.intro | exact ⟨hg, True.intro⟩ | exact ⟨hg, hg, True.intro⟩ | (refine ⟨?_, True.intro⟩; simp at hg; simp [hg]; done) | (refine ⟨?_, ?_, True.intro⟩ <;> (simp at hg; simp [hg]; done))), by (first | exact True.intro | (intro hh; simp [gval, hh, hg]; done) | (intro hh; simp only [gval, hh, hg, Bool.not_false, Bool.not_true, Bool.and_true, Bool.true_and]; done) | (intro hh; simp only [gval] at hg; simp only [gval, hh, hg, Bool.not_false, Bool.and_true, Bool.true_and]; done) | (simp [gval] at hg; first | omega | (simp; done) | (simp; omega)))⟩) ?_ | refine AW_seq ?_ | refine AW_region ?_ | refine AW_draw mixed (by kernel_rfl) ?_ | refine AW_block ?_ | refine AW_skip ?_ | refine AW_exit ?_ | refine AW_ret ?_)
    refine AWk_op (callS1 rfl rfl hS2 [0] (by decide) (by show [some (AObj.row [_, .d (.int .i64 (IntKind.i64.wrap ((i2 : Int) + 1))), _, _])] = _; rw [hwr]; rfl) rfl rfl (lowH_rsr 0 _ _) (lowH_rsr 0 _ _) (ren_cAV _ _) rfl) rfl ?_
    repeat (first | refine AWd_step hT rfl rfl rfl (by first | exact True.intro | exact (fun hh => hh) | omega | assumption | (intro hh; simp [gval, hh]; done) | (simp; omega)) ?_ | refine AWk_step hT rfl rfl (by first | exact True.intro | exact (fun hh => hh) | omega | assumption | (intro hh; simp [gval, hh]; done) | (simp; omega)) ?_ | refine AWk_step0 hT rfl (by first | exact True.intro | exact (fun hh => hh) | omega | assumption | (intro hh; simp [gval, hh]; done) | (simp; omega)) ?_ | refine AWd_nil ?_ | refine AWk_nil ?_ | refine AWd_gstep hT rfl rfl rfl rfl rfl (fun hg => ⟨by (first | exact True.intro | exact ⟨hg, True.intro⟩ | exact ⟨hg, hg, True.intro⟩ | (refine ⟨?_, True.intro⟩; simp at hg; simp [hg]; done) | (refine ⟨?_, ?_, True.intro⟩ <;> (simp at hg; simp [hg]; done))), by (first | exact True.intro | (intro hh; simp [gval, hh, hg]; done) | (intro hh; simp only [gval, hh, hg, Bool.not_false, Bool.not_true, Bool.and_true, Bool.true_and]; done) | (intro hh; simp only [gval] at hg; simp only [gval, hh, hg, Bool.not_false, Bool.and_true, Bool.true_and]; done) | (simp [gval] at hg; first | omega | (simp; done) | (simp; omega)))⟩) ?_ | refine AWk_gstep hT rfl rfl rfl rfl (fun hg => ⟨by (first | exact True.intro | exact ⟨hg, True.intro⟩ | exact ⟨hg, hg, True.intro⟩ | (refine ⟨?_, True.intro⟩; simp at hg; simp [hg]; done) | (refine ⟨?_, ?_, True.intro⟩ <;> (simp at hg; simp [hg]; done))), by (first | exact True.intro | (intro hh; simp [gval, hh, hg]; done) | (intro hh; simp only [gval, hh, hg, Bool.not_false, Bool.not_true, Bool.and_true, Bool.true_and]; done) | (intro hh; simp only [gval] at hg; simp only [gval, hh, hg, Bool.not_false, Bool.and_true, Bool.true_and]; done) | (simp [gval] at hg; first | omega | (simp; done) | (simp; omega)))⟩) ?_ | refine AW_seq ?_ | refine AW_region ?_ | refine AW_draw mixed (by kernel_rfl) ?_ | refine AW_block ?_ | refine AW_skip ?_ | refine AW_exit ?_ | refine AW_ret ?_)
    refine AWk_op (append_right (i := 2) hT rfl rfl rfl rfl rfl rfl (by show ((encCs l).length + 1) * (48 + 1) ≤ 140737488355328; rw [encCs_length]; omega)) rfl ?_
    repeat (first | refine AWd_step hT rfl rfl rfl (by first | exact True.intro | exact (fun hh => hh) | omega | assumption | (intro hh; simp [gval, hh]; done) | (simp; omega)) ?_ | refine AWk_step hT rfl rfl (by first | exact True.intro | exact (fun hh => hh) | omega | assumption | (intro hh; simp [gval, hh]; done) | (simp; omega)) ?_ | refine AWk_step0 hT rfl (by first | exact True.intro | exact (fun hh => hh) | omega | assumption | (intro hh; simp [gval, hh]; done) | (simp; omega)) ?_ | refine AWd_nil ?_ | refine AWk_nil ?_ | refine AWd_gstep hT rfl rfl rfl rfl rfl (fun hg => ⟨by (first | exact True.intro | exact ⟨hg, True.intro⟩ | exact ⟨hg, hg, True.intro⟩ | (refine ⟨?_, True.intro⟩; simp at hg; simp [hg]; done) | (refine ⟨?_, ?_, True.intro⟩ <;> (simp at hg; simp [hg]; done))), by (first | exact True.intro | (intro hh; simp [gval, hh, hg]; done) | (intro hh; simp only [gval, hh, hg, Bool.not_false, Bool.not_true, Bool.and_true, Bool.true_and]; done) | (intro hh; simp only [gval] at hg; simp only [gval, hh, hg, Bool.not_false, Bool.and_true, Bool.true_and]; done) | (simp [gval] at hg; first | omega | (simp; done) | (simp; omega)))⟩) ?_ | refine AWk_gstep hT rfl rfl rfl rfl (fun hg => ⟨by (first | exact True.intro | exact ⟨hg, True.intro⟩ | exact ⟨hg, hg, True.intro⟩ | (refine ⟨?_, True.intro⟩; simp at hg; simp [hg]; done) | (refine ⟨?_, ?_, True.intro⟩ <;> (simp at hg; simp [hg]; done))), by (first | exact True.intro | (intro hh; simp [gval, hh, hg]; done) | (intro hh; simp only [gval, hh, hg, Bool.not_false, Bool.not_true, Bool.and_true, Bool.true_and]; done) | (intro hh; simp only [gval] at hg; simp only [gval, hh, hg, Bool.not_false, Bool.and_true, Bool.true_and]; done) | (simp [gval] at hg; first | omega | (simp; done) | (simp; omega)))⟩) ?_ | refine AW_seq ?_ | refine AW_region ?_ | refine AW_draw mixed (by kernel_rfl) ?_ | refine AW_block ?_ | refine AW_skip ?_ | refine AW_exit ?_ | refine AW_ret ?_)
    refine ⟨(l ++ [.mk dk dc dv dkids], s3), ⟨k1, m, by simp only; omega, j5⟩, by simp only; omega, ⟨.refl _, .refl _, AV.le.eq ?_, trivial⟩, ⟨ObLe.refl _, ObLe.refl _, ⟨rfl, ?_⟩, trivial⟩⟩
    · rw [encCs_append]; rfl
    · rw [encCs_append, List.length_append]; rfl
  · have h2' : ¬ (bad2 < 0 ∧ pk = orW) := by simpa [andW, orW] using h2
    rw [if_neg h2'] at j5
    subst j5
    have hhi := j1.hi; have hll := j1.len; have hff := j1.flat
    simp only at hhi hll hff
    have hj := join_spec 4 l (by omega) (by omega)
    generalize joinR 4 l = jc at hj ⊢
    obtain ⟨jk, jch, jv, jkids⟩ := jc
    repeat (first | refine AW_exit ?_ | refine AW_skip ?_)
    refine AW_subL (l := [(0, .ptr 0 0), (2, .ptr 1 0), (3, .d (.sl 4 (encCs l)))]) (h' := [.row (rsr ws ⟨i2, en2, bad2⟩), .row [.d (.int .i64 0), .d (.int .i64 0), .d (.int .i64 0), .sl 4 [] .full], .dead]) ⟨.refl _, .refl _, AV.le.dat, trivial⟩ ⟨ObLe.refl _, ObLe.refl _, trivial, trivial⟩ ?_
    repeat (first | refine AWd_step hT rfl rfl rfl (by first | exact True.intro | exact (fun hh => hh) | omega | assumption | (intro hh; simp [gval, hh]; done) | (simp; omega)) ?_ | refine AWk_step hT rfl rfl (by first | exact True.intro | exact (fun hh => hh) | omega | assumption | (intro hh; simp [gval, hh]; done) | (simp; omega)) ?_ | refine AWk_step0 hT rfl (by first | exact True.intro | exact (fun hh => hh) | omega | assumption | (intro hh; simp [gval, hh]; done) | (simp; omega)) ?_ | refine AWd_nil ?_ | refine AWk_nil ?_ | refine AWd_gstep hT rfl rfl rfl rfl rfl (fun hg => ⟨by (first | exact True.intro | exact ⟨hg, True.intro⟩ | exact ⟨hg, hg, True.intro⟩ | (refine ⟨?_, True.intro⟩; simp at hg; simp [hg]; done) | (refine ⟨?_, ?_, True.intro⟩ <;> (simp at hg; simp [hg]; done))), by (first | exact True.intro | (intro hh; simp [gval, hh, hg]; done) | (intro hh; simp only [gval, hh, hg, Bool.not_false, Bool.not_true, Bool.and_true, Bool.true_and]; done) | (intro hh; simp only [gval] at hg; simp only [gval, hh, hg, Bool.not_false, Bool.and_true, Bool.true_and]; done) | (simp [gval] at hg; first | omega | (simp; done) | (simp; omega)))⟩) ?_ | refine AWk_gstep hT rfl rfl rfl rfl (fun hg => ⟨by (first | exact True.intro | exact ⟨hg, True.intro⟩ | exact ⟨hg, hg, True.intro⟩ | (refine ⟨?_, True.intro⟩; simp at hg; simp [hg]; done) | (refine ⟨?_, ?_, True.intro⟩ <;> (simp at hg; simp [hg]; done))), by (first | exact True.intro | (intro hh; simp [gval, hh, hg]; done) | (intro hh; simp only [gval, hh, hg, Bool.not_false, Bool.not_true, Bool.and_true, Bool.true_and]; done) | (intro hh; simp only [gval] at hg; simp only [gval, hh, hg, Bool.not_false, Bool.and_true, Bool.true_and]; done) | (simp [gval] at hg; first | omega | (simp; done) | (simp; omega)))⟩) ?_ | refine AW_seq ?_ | refine AW_region ?_ | refine AW_draw mixed (by kernel_rfl) ?_ | refine AW_block ?_ | refine AW_skip ?_ | refine AW_exit ?_ | refine AW_ret ?_)
    refine AWk_op (callS0 rfl rfl hj rfl rfl rfl) rfl ?_
    repeat (first | refine AWd_step hT rfl rfl rfl (by first | exact True.intro | exact (fun hh => hh) | omega | assumption | (intro hh; simp [gval, hh]; done) | (simp; omega)) ?_ | refine AWk_step hT rfl rfl (by first | exact True.intro | exact (fun hh => hh) | omega | assumption | (intro hh; simp [gval, hh]; done) | (simp; omega)) ?_ | refine AWk_step0 hT rfl (by first | exact True.intro | exact (fun hh => hh) | omega | assumption | (intro hh; simp [gval, hh]; done) | (simp; omega)) ?_ | refine AWd_nil ?_ | refine AWk_nil ?_ | refine AWd_gstep hT rfl rfl rfl rfl rfl (fun hg => ⟨by (first | exact True.intro | exact ⟨hg, True.intro⟩ | exact ⟨hg, hg, True.intro⟩ | (refine ⟨?_, True.intro⟩; simp at hg; simp [hg]; done) | (refine ⟨?_, ?_, True.intro⟩ <;> (simp at hg; simp [hg]; done))), by (first | exact True.intro | (intro hh; simp [gval, hh, hg]; done) | (intro hh; simp only [gval, hh, hg, Bool.not_false, Bool.not_true, Bool.and_true, Bool.true_and]; done) | (intro hh; simp only [gval] at hg; simp only [gval, hh, hg, Bool.not_false, Bool.and_true, Bool.true_and]; done) | (simp [gval] at hg; first | omega | (simp; done) | (simp; omega)))⟩) ?_ | refine AWk_gstep hT rfl rfl rfl rfl (fun hg => ⟨by (first | exact True.intro | exact ⟨hg, True.intro⟩ | exact ⟨hg, hg, True.intro⟩ | (refine ⟨?_, True.intro⟩; simp at hg; simp [hg]; done) | (refine ⟨?_, ?_, True.intro⟩ <;> (simp at hg; simp [hg]; done))), by (first | exact True.intro | (intro hh; simp [gval, hh, hg]; done) | (intro hh; simp only [gval, hh, hg, Bool.not_false, Bool.not_true, Bool.and_true, Bool.true_and]; done) | (intro hh; simp only [gval] at hg; simp only [gval, hh, hg, Bool.not_false, Bool.and_true, Bool.true_and]; done) | (simp [gval] at hg; first | omega | (simp; done) | (simp; omega)))⟩) ?_ | refine AW_seq ?_ | refine AW_region ?_ | refine AW_draw mixed (by kernel_rfl) ?_ | refine AW_block ?_ | refine AW_skip ?_ | refine AW_exit ?_ | refine AW_ret ?_)
    exact ret_exact (r := cAV (.mk jk jch jv jkids)) rfl (.refl _) rfl rfl rfl rfl ⟨rfl, rfl⟩
end Tdoc
