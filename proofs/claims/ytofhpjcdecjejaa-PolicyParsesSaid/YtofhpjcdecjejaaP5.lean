/- The parser of package policy: a series of conditions with a word between them. -/
import Derived.Test.YtofhpjcdecjejaaP4
set_option linter.unusedVariables false
set_option linter.unusedSimpArgs false
namespace Tdoc
open Go Go.Proofs

structure Inv (text : List UInt8) (s : PS) : Prop where
  a : s.a = s.na + s.nt.length
  le : s.a ≤ text.length

theorem Inv.next {text : List UInt8} {s : PS} (h : Inv text s) : Inv text (nextP text s) ∧ s.na + s.nt.length ≤ (nextP text s).na ∧ (nextP text s).wr = s.wr := by
  have h1 := skipS_le false (text.drop s.a)
  have h2 := wlen_le (text.drop (s.a + skipS false (text.drop s.a)))
  simp only [List.length_drop] at h1 h2
  have := h.a; have := h.le
  refine ⟨⟨?_, nextP_le text s h.le⟩, ?_, rfl⟩
  · simp only [nextP, List.length_take, List.length_drop]; omega
  · simp only [nextP]; omega

theorem isP_true {text : List UInt8} {s : PS} {w : List UInt8} (h : Inv text s) (ht : (isP text s w).1 = true) : Inv text (isP text s w).2 ∧ s.na + w.length ≤ (isP text s w).2.na ∧ (isP text s w).2.na ≤ text.length := by
  unfold isP at ht ⊢
  split at ht
  · cases ht
  · rename_i hc
    rw [if_neg hc]
    have hw : s.nt = w := by simp at hc; exact hc.2
    obtain ⟨h1, h2, _⟩ := h.next
    rw [hw] at h2
    refine ⟨h1, h2, ?_⟩
    have := h1.a; have := h1.le; simp only at *; omega
theorem isP_false {text : List UInt8} {s : PS} {w : List UInt8} (ht : (isP text s w).1 = false) : (isP text s w).2 = s := by
  unfold isP at ht ⊢
  split
  · rfl
  · rename_i hc; rw [if_neg hc] at ht; cases ht

theorem Inv.wr {text : List UInt8} {s : PS} (h : Inv text s) (b : Bool) : Inv text { s with wr := b } := ⟨h.a, h.le⟩

theorem oneP_inv {text : List UInt8} {s : PS} {l : List (List UInt8)} (h : Inv text s) : Inv text (oneP text s l).2 ∧ s.na ≤ (oneP text s l).2.na := by
  unfold oneP
  split
  · exact ⟨h.wr true, Nat.le_refl _⟩
  · obtain ⟨h1, h2, _⟩ := h.next; exact ⟨h1, by simp only; omega⟩
theorem needP_inv {text : List UInt8} {s : PS} {w : List UInt8} (h : Inv text s) : Inv text (needP text s w) ∧ s.na ≤ (needP text s w).na := by
  unfold needP
  cases hb : (isP text s w).1 with
  | true => rw [if_pos rfl]; obtain ⟨h1, h2, _⟩ := isP_true h hb; exact ⟨h1, by omega⟩
  | false => rw [isP_false hb]; exact ⟨h.wr true, Nat.le_refl _⟩

def loopP (text : List UInt8) (kind : Int) (w : List UInt8) (part : PS → Cond × PS) : Nat → List Cond → PS → List Cond × PS
  | 0, l, s => (l, s)
  | m + 1, l, s => if (isP text s w).1 then loopP text kind w part m (l ++ flatC kind (part (isP text s w).2).1) (part (isP text s w).2).2 else (l, (isP text s w).2)

def seriesP (text : List UInt8) (kind : Int) (w : List UInt8) (part : PS → Cond × PS) (s : PS) : Cond × PS :=
  if (part s).2.nt ≠ w ∨ (part s).2.wr = true then part s else
    (.mk kind 0 0 (loopP text kind w part (text.length + 1) (flatC kind (part s).1) (part s).2).1, (loopP text kind w part (text.length + 1) (flatC kind (part s).1) (part s).2).2)

/-- What a part keeps. -/
structure PartOk (text : List UInt8) (n : Nat) (part : PS → Cond × PS) : Prop where
  inv : ∀ s, Inv text s → text.length - s.na < n → Inv text (part s).2 ∧ s.na ≤ (part s).2.na ∧ wideC (part s).1 ≤ 1 + ((part s).2.na - s.na)

theorem flatC_len (kind : Int) (c : Cond) : (flatC kind c).length ≤ max 1 (wideC c) := by
  cases c; simp only [flatC, wideC]; split
  · omega
  · simp only [List.length_cons, List.length_nil]; omega

theorem loopP_ok {text : List UInt8} {n : Nat} {part : PS → Cond × PS} (hp : PartOk text n part) (kind : Int) {w : List UInt8} (hw : w ≠ []) : ∀ (m : Nat) (l : List Cond) (s : PS) (b : Nat), Inv text s → text.length - s.na < n → l.length ≤ 1 + (s.na - b) → b ≤ s.na →
    Inv text (loopP text kind w part m l s).2 ∧ s.na ≤ (loopP text kind w part m l s).2.na ∧ (loopP text kind w part m l s).1.length ≤ 1 + ((loopP text kind w part m l s).2.na - b)
  | 0, l, s, b, h, hn, hl, hb => ⟨h, Nat.le_refl _, hl⟩
  | m + 1, l, s, b, h, hn, hl, hb => by
    unfold loopP
    cases hi : (isP text s w).1 with
    | false => rw [if_neg (by simp), isP_false hi]; exact ⟨h, Nat.le_refl _, hl⟩
    | true =>
      rw [if_pos rfl]
      obtain ⟨h1, h2, h3⟩ := isP_true h hi
      have hwl : 0 < w.length := List.length_pos_iff.2 hw
      obtain ⟨k1, k2, k3⟩ := hp.inv _ h1 (by omega)
      have hf := flatC_len kind (part (isP text s w).2).1
      have := loopP_ok hp kind hw m (l ++ flatC kind (part (isP text s w).2).1) _ b k1 (by omega) (by simp only [List.length_append]; omega) (by omega)
      exact ⟨this.1, by omega, this.2.2⟩

theorem seriesP_ok {text : List UInt8} {n : Nat} {part : PS → Cond × PS} (hp : PartOk text n part) (kind : Int) {w : List UInt8} (hw : w ≠ []) : PartOk text n (seriesP text kind w part) := by
  refine ⟨fun s h hn => ?_⟩
  obtain ⟨k1, k2, k3⟩ := hp.inv s h hn
  unfold seriesP
  split
  · exact ⟨k1, k2, k3⟩
  · have hf := flatC_len kind (part s).1
    have := loopP_ok hp kind hw (text.length + 1) (flatC kind (part s).1) (part s).2 s.na k1 (by omega) (by omega) k2
    exact ⟨this.1, by simp only; omega, by simp only [wideC]; exact this.2.2⟩

/-- The contract of a part. -/
def PartSpec (text : List UInt8) (n : Nat) (g : FuncId) (part : PS → Cond × PS) : Prop :=
  ∀ s, Inv text s → text.length - s.na < n → Spec Try.prog g [.ptr 0 0] [.row (psr text s)] (fun r h' => r = cAV (part s).1 ∧ h' = [.row (psr text (part s).2)])

theorem ren_cAV (f : Nat → Nat) (c : Cond) : ren f (cAV c) = cAV c := ren_low f _ (low_cAV 0 c)

set_option maxRecDepth 100000 in
theorem series_spec {text : List UInt8} {n : Nat} {g : FuncId} {part : PS → Cond × PS} (hl : text.length ≤ 1000000) (hp : PartOk text n part) (HS : PartSpec text n g part) (kind : Int) {w : List UInt8} (hw : w ≠ []) (s : PS) (h : Inv text s) (hn : text.length - s.na < n) :
    Spec Try.prog 66 [.ptr 0 0, .d (.int .i64 kind), .d (.str w), .fn (.func g) [.ptr 0 0] []] [.row (psr text s)] (fun r h' => r = cAV (seriesP text kind w part s).1 ∧ h' = [.row (psr text (seriesP text kind w part s).2)]) := by
  have hS := HS s h hn
  obtain ⟨k1, k2, k3⟩ := hp.inv s h hn
  unfold seriesP
  generalize hps : part s = ps at hS k1 k2 k3 ⊢
  obtain ⟨⟨ck, cc, cv, kids⟩, ⟨a1, nt1, na1, wr1⟩⟩ := ps
  simp only at hS k1 k2 k3 ⊢
  refine Spec_of_body hT Try.func66 rfl rfl rfl rfl ?_
  intro E hE
  repeat (first | refine AWd_step hT rfl rfl rfl (by first | exact True.intro | exact (fun hh => hh) | omega | assumption | (intro hh; simp [gval, hh]; done) | (simp; omega)) ?_ | refine AWk_step hT rfl rfl (by first | exact True.intro | exact (fun hh => hh) | omega | assumption | (intro hh; simp [gval, hh]; done) | (simp; omega)) ?_ | refine AWk_step0 hT rfl (by first | exact True.intro | exact (fun hh => hh) | omega | assumption | (intro hh; simp [gval, hh]; done) | (simp; omega)) ?_ | refine AWd_nil ?_ | refine AWk_nil ?_ | refine AWd_gstep hT rfl rfl rfl rfl rfl (fun hg => ⟨by (first | exact True.intro | exact ⟨hg, True.intro⟩ | exact ⟨hg, hg, True.intro⟩ | (refine ⟨?_, True.intro⟩; simp at hg; simp [hg]; done) | (refine ⟨?_, ?_, True.intro⟩ <;> (simp at hg; simp [hg]; done))), by (first | exact True.intro | (intro hh; simp [gval, hh, hg]; done) | (intro hh; simp only [gval, hh, hg, Bool.not_false, Bool.not_true, Bool.and_true, Bool.true_and]; done) | (intro hh; simp only [gval] at hg; simp only [gval, hh, hg, Bool.not_false, Bool.and_true, Bool.true_and]; done) | (simp [gval] at hg; first | omega | (simp; done) | (simp; omega)))⟩) ?_ | refine AWk_gstep hT rfl rfl rfl rfl (fun hg => ⟨by (first | exact True.intro | exact ⟨hg, True.intro⟩ | exact ⟨hg, hg, True.intro⟩ | (refine ⟨?_, True.intro⟩; simp at hg; simp [hg]; done) | (refine ⟨?_, ?_, True.intro⟩ <;> (simp at hg; simp [hg]; done))), by (first | exact True.intro | (intro hh; simp [gval, hh, hg]; done) | (intro hh; simp only [gval, hh, hg, Bool.not_false, Bool.not_true, Bool.and_true, Bool.true_and]; done) | (intro hh; simp only [gval] at hg; simp only [gval, hh, hg, Bool.not_false, Bool.and_true, Bool.true_and]; done) | (simp [gval] at hg; first | omega | (simp; done) | (simp; omega)))⟩) ?_ | refine AW_seq ?_ | refine AW_region ?_ | refine AW_draw mixed (by kernel_rfl) ?_ | refine AW_block ?_ | refine AW_skip ?_ | refine AW_exit ?_ | refine AW_ret ?_)
  refine AWk_op (callS1 rfl rfl hS [0] (by decide) rfl rfl rfl (lowH_psr 0 _ _) (lowH_psr 0 _ _) (ren_cAV _ _) rfl) rfl ?_
  repeat (first | refine AWd_step hT rfl rfl rfl (by first | exact True.intro | exact (fun hh => hh) | omega | assumption | (intro hh; simp [gval, hh]; done) | (simp; omega)) ?_ | refine AWk_step hT rfl rfl (by first | exact True.intro | exact (fun hh => hh) | omega | assumption | (intro hh; simp [gval, hh]; done) | (simp; omega)) ?_ | refine AWk_step0 hT rfl (by first | exact True.intro | exact (fun hh => hh) | omega | assumption | (intro hh; simp [gval, hh]; done) | (simp; omega)) ?_ | refine AWd_nil ?_ | refine AWk_nil ?_ | refine AWd_gstep hT rfl rfl rfl rfl rfl (fun hg => ⟨by (first | exact True.intro | exact ⟨hg, True.intro⟩ | exact ⟨hg, hg, True.intro⟩ | (refine ⟨?_, True.intro⟩; simp at hg; simp [hg]; done) | (refine ⟨?_, ?_, True.intro⟩ <;> (simp at hg; simp [hg]; done))), by (first | exact True.intro | (intro hh; simp [gval, hh, hg]; done) | (intro hh; simp only [gval, hh, hg, Bool.not_false, Bool.not_true, Bool.and_true, Bool.true_and]; done) | (intro hh; simp only [gval] at hg; simp only [gval, hh, hg, Bool.not_false, Bool.and_true, Bool.true_and]; done) | (simp [gval] at hg; first | omega | (simp; done) | (simp; omega)))⟩) ?_ | refine AWk_gstep hT rfl rfl rfl rfl (fun hg => ⟨by (first | exact True.intro | exact ⟨hg, True.intro⟩ | exact ⟨hg, hg, True.intro⟩ | (refine ⟨?_, True.intro⟩; simp at hg; simp [hg]; done) | (refine ⟨?_, ?_, True.intro⟩ <;> (simp at hg; simp [hg]; done))), by (first | exact True.intro | (intro hh; simp [gval, hh, hg]; done) | (intro hh; simp only [gval, hh, hg, Bool.not_false, Bool.not_true, Bool.and_true, Bool.true_and]; done) | (intro hh; simp only [gval] at hg; simp only [gval, hh, hg, Bool.not_false, Bool.and_true, Bool.true_and]; done) | (simp [gval] at hg; first | omega | (simp; done) | (simp; omega)))⟩) ?_ | refine AW_seq ?_ | refine AW_region ?_ | refine AW_draw mixed (by kernel_rfl) ?_ | refine AW_block ?_ | refine AW_skip ?_ | refine AW_exit ?_ | refine AW_ret ?_)
  refine AW_condL rfl (fun h1 => ?_) (fun h1 => ?_)
  · have h1' : nt1 ≠ w ∨ wr1 = true := by simpa using h1
    rw [if_pos h1']
    repeat (first | refine AWd_step hT rfl rfl rfl (by first | exact True.intro | exact (fun hh => hh) | omega | assumption | (intro hh; simp [gval, hh]; done) | (simp; omega)) ?_ | refine AWk_step hT rfl rfl (by first | exact True.intro | exact (fun hh => hh) | omega | assumption | (intro hh; simp [gval, hh]; done) | (simp; omega)) ?_ | refine AWk_step0 hT rfl (by first | exact True.intro | exact (fun hh => hh) | omega | assumption | (intro hh; simp [gval, hh]; done) | (simp; omega)) ?_ | refine AWd_nil ?_ | refine AWk_nil ?_ | refine AWd_gstep hT rfl rfl rfl rfl rfl (fun hg => ⟨by (first | exact True.intro | exact ⟨hg, True.intro⟩ | exact ⟨hg, hg, True.intro⟩ | (refine ⟨?_, True.intro⟩; simp at hg; simp [hg]; done) | (refine ⟨?_, ?_, True.intro⟩ <;> (simp at hg; simp [hg]; done))), by (first | exact True.intro | (intro hh; simp [gval, hh, hg]; done) | (intro hh; simp only [gval, hh, hg, Bool.not_false, Bool.not_true, Bool.and_true, Bool.true_and]; done) | (intro hh; simp only [gval] at hg; simp only [gval, hh, hg, Bool.not_false, Bool.and_true, Bool.true_and]; done) | (simp [gval] at hg; first | omega | (simp; done) | (simp; omega)))⟩) ?_ | refine AWk_gstep hT rfl rfl rfl rfl (fun hg => ⟨by (first | exact True.intro | exact ⟨hg, True.intro⟩ | exact ⟨hg, hg, True.intro⟩ | (refine ⟨?_, True.intro⟩; simp at hg; simp [hg]; done) | (refine ⟨?_, ?_, True.intro⟩ <;> (simp at hg; simp [hg]; done))), by (first | exact True.intro | (intro hh; simp [gval, hh, hg]; done) | (intro hh; simp only [gval, hh, hg, Bool.not_false, Bool.not_true, Bool.and_true, Bool.true_and]; done) | (intro hh; simp only [gval] at hg; simp only [gval, hh, hg, Bool.not_false, Bool.and_true, Bool.true_and]; done) | (simp [gval] at hg; first | omega | (simp; done) | (simp; omega)))⟩) ?_ | refine AW_seq ?_ | refine AW_region ?_ | refine AW_draw mixed (by kernel_rfl) ?_ | refine AW_block ?_ | refine AW_skip ?_ | refine AW_exit ?_ | refine AW_ret ?_)
    exact ret_exact rfl (.refl _) rfl rfl rfl rfl ⟨rfl, rfl⟩
  · have h1' : ¬ (nt1 ≠ w ∨ wr1 = true) := by simpa using h1
    rw [if_neg h1']
    repeat (first | refine AW_exit ?_ | refine AW_skip ?_)
    refine AW_room ?_
    repeat (first | refine AWd_step hT rfl rfl rfl (by first | exact True.intro | exact (fun hh => hh) | omega | assumption | (intro hh; simp [gval, hh]; done) | (simp; omega)) ?_ | refine AWk_step hT rfl rfl (by first | exact True.intro | exact (fun hh => hh) | omega | assumption | (intro hh; simp [gval, hh]; done) | (simp; omega)) ?_ | refine AWk_step0 hT rfl (by first | exact True.intro | exact (fun hh => hh) | omega | assumption | (intro hh; simp [gval, hh]; done) | (simp; omega)) ?_ | refine AWd_nil ?_ | refine AWk_nil ?_ | refine AWd_gstep hT rfl rfl rfl rfl rfl (fun hg => ⟨by (first | exact True.intro | exact ⟨hg, True.intro⟩ | exact ⟨hg, hg, True.intro⟩ | (refine ⟨?_, True.intro⟩; simp at hg; simp [hg]; done) | (refine ⟨?_, ?_, True.intro⟩ <;> (simp at hg; simp [hg]; done))), by (first | exact True.intro | (intro hh; simp [gval, hh, hg]; done) | (intro hh; simp only [gval, hh, hg, Bool.not_false, Bool.not_true, Bool.and_true, Bool.true_and]; done) | (intro hh; simp only [gval] at hg; simp only [gval, hh, hg, Bool.not_false, Bool.and_true, Bool.true_and]; done) | (simp [gval] at hg; first | omega | (simp; done) | (simp; omega)))⟩) ?_ | refine AWk_gstep hT rfl rfl rfl rfl (fun hg => ⟨by (first | exact True.intro | exact ⟨hg, True.intro⟩ | exact ⟨hg, hg, True.intro⟩ | (refine ⟨?_, True.intro⟩; simp at hg; simp [hg]; done) | (refine ⟨?_, ?_, True.intro⟩ <;> (simp at hg; simp [hg]; done))), by (first | exact True.intro | (intro hh; simp [gval, hh, hg]; done) | (intro hh; simp only [gval, hh, hg, Bool.not_false, Bool.not_true, Bool.and_true, Bool.true_and]; done) | (intro hh; simp only [gval] at hg; simp only [gval, hh, hg, Bool.not_false, Bool.and_true, Bool.true_and]; done) | (simp [gval] at hg; first | omega | (simp; done) | (simp; omega)))⟩) ?_ | refine AW_seq ?_ | refine AW_region ?_ | refine AW_draw mixed (by kernel_rfl) ?_ | refine AW_block ?_ | refine AW_skip ?_ | refine AW_exit ?_ | refine AW_ret ?_)
    have hwide : wideC (.mk ck cc cv kids) ≤ 2000000 := by have := k1.a; have := k1.le; simp only at *; omega
    refine AWk_op (callS rfl rfl (flatR_spec kind (.mk ck cc cv kids) hwide) [3] (by decide) rfl rfl rfl rfl rfl rfl) rfl ?_
    repeat (first | refine AWd_step hT rfl rfl rfl (by first | exact True.intro | exact (fun hh => hh) | omega | assumption | (intro hh; simp [gval, hh]; done) | (simp; omega)) ?_ | refine AWk_step hT rfl rfl (by first | exact True.intro | exact (fun hh => hh) | omega | assumption | (intro hh; simp [gval, hh]; done) | (simp; omega)) ?_ | refine AWk_step0 hT rfl (by first | exact True.intro | exact (fun hh => hh) | omega | assumption | (intro hh; simp [gval, hh]; done) | (simp; omega)) ?_ | refine AWd_nil ?_ | refine AWk_nil ?_ | refine AWd_gstep hT rfl rfl rfl rfl rfl (fun hg => ⟨by (first | exact True.intro | exact ⟨hg, True.intro⟩ | exact ⟨hg, hg, True.intro⟩ | (refine ⟨?_, True.intro⟩; simp at hg; simp [hg]; done) | (refine ⟨?_, ?_, True.intro⟩ <;> (simp at hg; simp [hg]; done))), by (first | exact True.intro | (intro hh; simp [gval, hh, hg]; done) | (intro hh; simp only [gval, hh, hg, Bool.not_false, Bool.not_true, Bool.and_true, Bool.true_and]; done) | (intro hh; simp only [gval] at hg; simp only [gval, hh, hg, Bool.not_false, Bool.and_true, Bool.true_and]; done) | (simp [gval] at hg; first | omega | (simp; done) | (simp; omega)))⟩) ?_ | refine AWk_gstep hT rfl rfl rfl rfl (fun hg => ⟨by (first | exact True.intro | exact ⟨hg, True.intro⟩ | exact ⟨hg, hg, True.intro⟩ | (refine ⟨?_, True.intro⟩; simp at hg; simp [hg]; done) | (refine ⟨?_, ?_, True.intro⟩ <;> (simp at hg; simp [hg]; done))), by (first | exact True.intro | (intro hh; simp [gval, hh, hg]; done) | (intro hh; simp only [gval, hh, hg, Bool.not_false, Bool.not_true, Bool.and_true, Bool.true_and]; done) | (intro hh; simp only [gval] at hg; simp only [gval, hh, hg, Bool.not_false, Bool.and_true, Bool.true_and]; done) | (simp [gval] at hg; first | omega | (simp; done) | (simp; omega)))⟩) ?_ | refine AW_seq ?_ | refine AW_region ?_ | refine AW_draw mixed (by kernel_rfl) ?_ | refine AW_block ?_ | refine AW_skip ?_ | refine AW_exit ?_ | refine AW_ret ?_)
    generalize hfin : loopP text kind w part (text.length + 1) (flatC kind (.mk ck cc cv kids)) ⟨a1, nt1, na1, wr1⟩ = fin
    have hf := flatC_len kind (.mk ck cc cv kids)
    refine AW_loopC (ι := List Cond × PS)
      (fun x => [(0, .ptr 0 0), (1, .d (.int .i64 kind)), (2, .d (.str w)), (3, .fn (.func g) [.ptr 0 0] []), (8, .ptr 1 0), (10, .sl 4 (encCs x.1) (.right 3))])
      (fun x => [.row (psr text x.2), .row [.d (.int .i64 0), .d (.int .i64 0), .d (.int .i64 0), .sl 4 [] .full], .dead, .right 4 (encCs x.1).length])
      (fun x => Inv text x.2 ∧ s.na ≤ x.2.na ∧ x.1.length ≤ 1 + (x.2.na - s.na) ∧ ∃ m, text.length - x.2.na < m ∧ loopP text kind w part m x.1 x.2 = fin)
      (fun x => text.length - x.2.na) (flatC kind (.mk ck cc cv kids), ⟨a1, nt1, na1, wr1⟩) ⟨k1, k2, by simp only [wideC] at *; omega, _, by simp only; omega, hfin⟩
      ⟨.refl _, .refl _, .refl _, .refl _, .refl _, .refl _, trivial⟩ ⟨ObLe.refl _, ObLe.refl _, trivial, ObLe.refl _, trivial⟩ ?_
    rintro ⟨l, s1⟩ ⟨i1, i2, i3, m, i4, i5⟩
    simp only at i1 i2 i3 i4 i5 ⊢
    have his := is_spec text s1 w i1.le hl
    have hit := isP_true (w := w) i1
    have hif := isP_false (text := text) (s := s1) (w := w)
    obtain ⟨m, rfl⟩ : ∃ m', m = m' + 1 := ⟨m - 1, by omega⟩
    rw [loopP] at i5
    generalize isP text s1 w = bs at his hit hif i5
    obtain ⟨b, s2⟩ := bs
    simp only at his hit hif i5
    repeat (first | refine AWd_step hT rfl rfl rfl (by first | exact True.intro | exact (fun hh => hh) | omega | assumption | (intro hh; simp [gval, hh]; done) | (simp; omega)) ?_ | refine AWk_step hT rfl rfl (by first | exact True.intro | exact (fun hh => hh) | omega | assumption | (intro hh; simp [gval, hh]; done) | (simp; omega)) ?_ | refine AWk_step0 hT rfl (by first | exact True.intro | exact (fun hh => hh) | omega | assumption | (intro hh; simp [gval, hh]; done) | (simp; omega)) ?_ | refine AWd_nil ?_ | refine AWk_nil ?_ | refine AWd_gstep hT rfl rfl rfl rfl rfl (fun hg => ⟨by (first | exact True.intro | exact ⟨hg, True.intro⟩ | exact ⟨hg, hg, True.intro⟩ | (refine ⟨?_, True.intro⟩; simp at hg; simp [hg]; done) | (refine ⟨?_, ?_, True.intro⟩ <;> (simp at hg; simp [hg]; done))), by (first | exact True.intro | (intro hh; simp [gval, hh, hg]; done) | (intro hh; simp only [gval, hh, hg, Bool.not_false, Bool.not_true, Bool.and_true, Bool.true_and]; done) | (intro hh; simp only [gval] at hg; simp only [gval, hh, hg, Bool.not_false, Bool.and_true, Bool.true_and]; done) | (simp [gval] at hg; first | omega | (simp; done) | (simp; omega)))⟩) ?_ | refine AWk_gstep hT rfl rfl rfl rfl (fun hg => ⟨by (first | exact True.intro | exact ⟨hg, True.intro⟩ | exact ⟨hg, hg, True.intro⟩ | (refine ⟨?_, True.intro⟩; simp at hg; simp [hg]; done) | (refine ⟨?_, ?_, True.intro⟩ <;> (simp at hg; simp [hg]; done))), by (first | exact True.intro | (intro hh; simp [gval, hh, hg]; done) | (intro hh; simp only [gval, hh, hg, Bool.not_false, Bool.not_true, Bool.and_true, Bool.true_and]; done) | (intro hh; simp only [gval] at hg; simp only [gval, hh, hg, Bool.not_false, Bool.and_true, Bool.true_and]; done) | (simp [gval] at hg; first | omega | (simp; done) | (simp; omega)))⟩) ?_ | refine AW_seq ?_ | refine AW_region ?_ | refine AW_draw mixed (by kernel_rfl) ?_ | refine AW_block ?_ | refine AW_skip ?_ | refine AW_exit ?_ | refine AW_ret ?_)
    refine AWk_op (callS1 rfl rfl his [0] (by decide) rfl rfl rfl (lowH_psr 0 _ _) (lowH_psr 0 _ _) rfl rfl) rfl ?_
    repeat (first | refine AWd_step hT rfl rfl rfl (by first | exact True.intro | exact (fun hh => hh) | omega | assumption | (intro hh; simp [gval, hh]; done) | (simp; omega)) ?_ | refine AWk_step hT rfl rfl (by first | exact True.intro | exact (fun hh => hh) | omega | assumption | (intro hh; simp [gval, hh]; done) | (simp; omega)) ?_ | refine AWk_step0 hT rfl (by first | exact True.intro | exact (fun hh => hh) | omega | assumption | (intro hh; simp [gval, hh]; done) | (simp; omega)) ?_ | refine AWd_nil ?_ | refine AWk_nil ?_ | refine AWd_gstep hT rfl rfl rfl rfl rfl (fun hg => ⟨by (first | exact True.intro | exact ⟨hg, True.intro⟩ | exact ⟨hg, hg, True.intro⟩ | (refine ⟨?_, True.intro⟩; simp at hg; simp [hg]; done) | (refine ⟨?_, ?_, True.intro⟩ <;> (simp at hg; simp [hg]; done))), by (first | exact True.intro | (intro hh; simp [gval, hh, hg]; done) | (intro hh; simp only [gval, hh, hg, Bool.not_false, Bool.not_true, Bool.and_true, Bool.true_and]; done) | (intro hh; simp only [gval] at hg; simp only [gval, hh, hg, Bool.not_false, Bool.and_true, Bool.true_and]; done) | (simp [gval] at hg; first | omega | (simp; done) | (simp; omega)))⟩) ?_ | refine AWk_gstep hT rfl rfl rfl rfl (fun hg => ⟨by (first | exact True.intro | exact ⟨hg, True.intro⟩ | exact ⟨hg, hg, True.intro⟩ | (refine ⟨?_, True.intro⟩; simp at hg; simp [hg]; done) | (refine ⟨?_, ?_, True.intro⟩ <;> (simp at hg; simp [hg]; done))), by (first | exact True.intro | (intro hh; simp [gval, hh, hg]; done) | (intro hh; simp only [gval, hh, hg, Bool.not_false, Bool.not_true, Bool.and_true, Bool.true_and]; done) | (intro hh; simp only [gval] at hg; simp only [gval, hh, hg, Bool.not_false, Bool.and_true, Bool.true_and]; done) | (simp [gval] at hg; first | omega | (simp; done) | (simp; omega)))⟩) ?_ | refine AW_seq ?_ | refine AW_region ?_ | refine AW_draw mixed (by kernel_rfl) ?_ | refine AW_block ?_ | refine AW_skip ?_ | refine AW_exit ?_ | refine AW_ret ?_)
    refine AW_condL rfl (fun h2 => ?_) (fun h2 => ?_)
    · subst h2
      obtain ⟨j1, j2, j3⟩ := hit rfl
      rw [if_pos rfl] at i5
      have hwl : 0 < w.length := List.length_pos_iff.2 hw
      have hS2 := HS s2 j1 (by omega)
      obtain ⟨q1, q2, q3⟩ := hp.inv s2 j1 (by omega)
      generalize part s2 = ps2 at hS2 q1 q2 q3 i5
      obtain ⟨c2, s3⟩ := ps2
      simp only at hS2 q1 q2 q3 i5
      have hf2 := flatC_len kind c2
      have hq1 := q1.le; have hq2 := q1.a
      repeat (first | refine AWd_step hT rfl rfl rfl (by first | exact True.intro | exact (fun hh => hh) | omega | assumption | (intro hh; simp [gval, hh]; done) | (simp; omega)) ?_ | refine AWk_step hT rfl rfl (by first | exact True.intro | exact (fun hh => hh) | omega | assumption | (intro hh; simp [gval, hh]; done) | (simp; omega)) ?_ | refine AWk_step0 hT rfl (by first | exact True.intro | exact (fun hh => hh) | omega | assumption | (intro hh; simp [gval, hh]; done) | (simp; omega)) ?_ | refine AWd_nil ?_ | refine AWk_nil ?_ | refine AWd_gstep hT rfl rfl rfl rfl rfl (fun hg => ⟨by (first | exact True.intro | exact ⟨hg, True.intro⟩ | exact ⟨hg, hg, True.intro⟩ | (refine ⟨?_, True.intro⟩; simp at hg; simp [hg]; done) | (refine ⟨?_, ?_, True.intro⟩ <;> (simp at hg; simp [hg]; done))), by (first | exact True.intro | (intro hh; simp [gval, hh, hg]; done) | (intro hh; simp only [gval, hh, hg, Bool.not_false, Bool.not_true, Bool.and_true, Bool.true_and]; done) | (intro hh; simp only [gval] at hg; simp only [gval, hh, hg, Bool.not_false, Bool.and_true, Bool.true_and]; done) | (simp [gval] at hg; first | omega | (simp; done) | (simp; omega)))⟩) ?_ | refine AWk_gstep hT rfl rfl rfl rfl (fun hg => ⟨by (first | exact True.intro | exact ⟨hg, True.intro⟩ | exact ⟨hg, hg, True.intro⟩ | (refine ⟨?_, True.intro⟩; simp at hg; simp [hg]; done) | (refine ⟨?_, ?_, True.intro⟩ <;> (simp at hg; simp [hg]; done))), by (first | exact True.intro | (intro hh; simp [gval, hh, hg]; done) | (intro hh; simp only [gval, hh, hg, Bool.not_false, Bool.not_true, Bool.and_true, Bool.true_and]; done) | (intro hh; simp only [gval] at hg; simp only [gval, hh, hg, Bool.not_false, Bool.and_true, Bool.true_and]; done) | (simp [gval] at hg; first | omega | (simp; done) | (simp; omega)))⟩) ?_ | refine AW_seq ?_ | refine AW_region ?_ | refine AW_draw mixed (by kernel_rfl) ?_ | refine AW_block ?_ | refine AW_skip ?_ | refine AW_exit ?_ | refine AW_ret ?_)
      refine AWk_op (callS1 rfl rfl hS2 [0] (by decide) rfl rfl rfl (lowH_psr 0 _ _) (lowH_psr 0 _ _) (ren_cAV _ _) rfl) rfl ?_
      refine AWk_op (callS0 rfl rfl (flat_spec kind c2 (by omega)) rfl (by simp [lowL, low_cAV, low]) rfl) rfl ?_
      refine AWk_op (append_right (i := 3) hT rfl rfl rfl rfl rfl rfl (by show ((encCs l).length + (encCs (flatC kind c2)).length) * (48 + 1) ≤ 140737488355328; rw [encCs_length, encCs_length]; omega)) rfl ?_
      repeat (first | refine AWd_step hT rfl rfl rfl (by first | exact True.intro | exact (fun hh => hh) | omega | assumption | (intro hh; simp [gval, hh]; done) | (simp; omega)) ?_ | refine AWk_step hT rfl rfl (by first | exact True.intro | exact (fun hh => hh) | omega | assumption | (intro hh; simp [gval, hh]; done) | (simp; omega)) ?_ | refine AWk_step0 hT rfl (by first | exact True.intro | exact (fun hh => hh) | omega | assumption | (intro hh; simp [gval, hh]; done) | (simp; omega)) ?_ | refine AWd_nil ?_ | refine AWk_nil ?_ | refine AWd_gstep hT rfl rfl rfl rfl rfl (fun hg => ⟨by (first | exact True.intro | exact ⟨hg, True.intro⟩ | exact ⟨hg, hg, True.intro⟩ | (refine ⟨?_, True.intro⟩; simp at hg; simp [hg]; done) | (refine ⟨?_, ?_, True.intro⟩ <;> (simp at hg; simp [hg]; done))), by (first | exact True.intro | (intro hh; simp [gval, hh, hg]; done) | (intro hh; simp only [gval, hh, hg, Bool.not_false, Bool.not_true, Bool.and_true, Bool.true_and]; done) | (intro hh; simp only [gval] at hg; simp only [gval, hh, hg, Bool.not_false, Bool.and_true, Bool.true_and]; done) | (simp [gval] at hg; first | omega | (simp; done) | (simp; omega)))⟩) ?_ | refine AWk_gstep hT rfl rfl rfl rfl (fun hg => ⟨by (first | exact True.intro | exact ⟨hg, True.intro⟩ | exact ⟨hg, hg, True.intro⟩ | (refine ⟨?_, True.intro⟩; simp at hg; simp [hg]; done) | (refine ⟨?_, ?_, True.intro⟩ <;> (simp at hg; simp [hg]; done))), by (first | exact True.intro | (intro hh; simp [gval, hh, hg]; done) | (intro hh; simp only [gval, hh, hg, Bool.not_false, Bool.not_true, Bool.and_true, Bool.true_and]; done) | (intro hh; simp only [gval] at hg; simp only [gval, hh, hg, Bool.not_false, Bool.and_true, Bool.true_and]; done) | (simp [gval] at hg; first | omega | (simp; done) | (simp; omega)))⟩) ?_ | refine AW_seq ?_ | refine AW_region ?_ | refine AW_draw mixed (by kernel_rfl) ?_ | refine AW_block ?_ | refine AW_skip ?_ | refine AW_exit ?_ | refine AW_ret ?_)
      refine ⟨(l ++ flatC kind c2, s3), [], ⟨q1, by simp only; omega, by simp only [List.length_append]; omega, m, by simp only; omega, i5⟩, by simp only; omega, ⟨.refl _, .refl _, .refl _, .refl _, .refl _, AV.le.eq ?_, trivial⟩, ⟨ObLe.refl _, ObLe.refl _, trivial, ?_, trivial⟩, Env.below_mono hE (by simp), rfl, ?_⟩
      · simp only [encCs_append]; rfl
      · exact ⟨rfl, by simp only [encCs_length, List.length_append]⟩
      · simp only [lowH, lowO, low_psr]; rfl
    · subst h2
      rw [if_neg (by simp)] at i5
      have := hif rfl
      subst this
      repeat (first | refine AWd_step hT rfl rfl rfl (by first | exact True.intro | exact (fun hh => hh) | omega | assumption | (intro hh; simp [gval, hh]; done) | (simp; omega)) ?_ | refine AWk_step hT rfl rfl (by first | exact True.intro | exact (fun hh => hh) | omega | assumption | (intro hh; simp [gval, hh]; done) | (simp; omega)) ?_ | refine AWk_step0 hT rfl (by first | exact True.intro | exact (fun hh => hh) | omega | assumption | (intro hh; simp [gval, hh]; done) | (simp; omega)) ?_ | refine AWd_nil ?_ | refine AWk_nil ?_ | refine AWd_gstep hT rfl rfl rfl rfl rfl (fun hg => ⟨by (first | exact True.intro | exact ⟨hg, True.intro⟩ | exact ⟨hg, hg, True.intro⟩ | (refine ⟨?_, True.intro⟩; simp at hg; simp [hg]; done) | (refine ⟨?_, ?_, True.intro⟩ <;> (simp at hg; simp [hg]; done))), by (first | exact True.intro | (intro hh; simp [gval, hh, hg]; done) | (intro hh; simp only [gval, hh, hg, Bool.not_false, Bool.not_true, Bool.and_true, Bool.true_and]; done) | (intro hh; simp only [gval] at hg; simp only [gval, hh, hg, Bool.not_false, Bool.and_true, Bool.true_and]; done) | (simp [gval] at hg; first | omega | (simp; done) | (simp; omega)))⟩) ?_ | refine AWk_gstep hT rfl rfl rfl rfl (fun hg => ⟨by (first | exact True.intro | exact ⟨hg, True.intro⟩ | exact ⟨hg, hg, True.intro⟩ | (refine ⟨?_, True.intro⟩; simp at hg; simp [hg]; done) | (refine ⟨?_, ?_, True.intro⟩ <;> (simp at hg; simp [hg]; done))), by (first | exact True.intro | (intro hh; simp [gval, hh, hg]; done) | (intro hh; simp only [gval, hh, hg, Bool.not_false, Bool.not_true, Bool.and_true, Bool.true_and]; done) | (intro hh; simp only [gval] at hg; simp only [gval, hh, hg, Bool.not_false, Bool.and_true, Bool.true_and]; done) | (simp [gval] at hg; first | omega | (simp; done) | (simp; omega)))⟩) ?_ | refine AW_seq ?_ | refine AW_region ?_ | refine AW_draw mixed (by kernel_rfl) ?_ | refine AW_block ?_ | refine AW_skip ?_ | refine AW_exit ?_ | refine AW_ret ?_)
      refine ret_exact (r := cAV (.mk kind 0 0 l)) rfl (AV.le.agg ⟨.refl _, .refl _, .refl _, AV.le.dat, trivial⟩) rfl rfl rfl (lowH_psr _ _ _) ⟨?_, ?_⟩
      · rw [← i5]
      · rw [← i5]; rfl
end Tdoc
