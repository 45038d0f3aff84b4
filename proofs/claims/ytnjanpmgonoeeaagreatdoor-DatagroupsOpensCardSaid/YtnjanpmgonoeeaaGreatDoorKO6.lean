/- The texts O6 O7 O8 O9 OA OB OC OD ZS OI: each says at its head what it shows. Part 6 of the proof; no conditions beyond the theorems' own. -/
import Derived.Test.YtnjanpmgonoeeaaGreatDoorKO3
import Derived.Test.YtnjanpmgonoeeaaGreatDoorKO5
import Derived.Test.YtnjanpmgonoeeaaGreatDoorKO4
import Derived.Test.YtnjanpmgonoeeaaGreatDoorKO2
/- The reference's Split. -/
set_option linter.unusedVariables false
set_option linter.unusedSimpArgs false
namespace Tdoc
open Go Go.Proofs

def fullR (s : List UInt8) : Bool := decide ((splitR s).2.2 = 0) && (strAt s ((s.length : Int) - 1) != 60)
def atI (a : Bool) : Int := if a = true then 1 else 0
structure SpI where
  i : Nat
  r : Nat
  a : Bool
  p0 : List UInt8
  p1 : List UInt8
structure SpW (tr : List UInt8) (x : SpI) : Prop where
  hi : x.i ≤ tr.length
  h0 : x.p0 = [] → x.i = x.r
  h1 : x.p0 ≠ [] → x.r < x.i
  ha : x.a = true → x.p0 ≠ []
  l0 : x.p0.length ≤ 2 * x.i
  l1 : x.p1.length ≤ 2 * x.i
set_option maxHeartbeats 8000000 in
set_option maxRecDepth 100000 in
theorem SplitRef_spec (s : List UInt8) (hs : s.length ≤ 1000) : Spec Tryz.prog 215 [.d (.str s)] [] (fun r h' => r = .tup [.d (.str (splitR s).1), .d (.str (splitR s).2.1), .d (.bool (fullR s)), .d (.int .i64 (splitR s).2.2)] ∧ h' = []) := by
  have ht := TrimRef_spec s (by omega)
  have hlt : (trimF s).length ≤ s.length := trimF_le s
  generalize hfu : fullR s = fu
  unfold fullR at hfu
  generalize hr : splitR s = res at *
  unfold splitR at hr
  refine Spec_of_body hT Tryz.func215 rfl rfl rfl rfl ?_; intro E hE
  refine ww ?_
  refine AW_condL rfl (fun c1 => ?_) (fun c1 => ?_)
  · rw [if_pos (by simp at c1; omega)] at hr
    subst hr
    subst hfu
    refine ww ?_
    exact wwr
  rw [if_neg (by simp at c1; omega)] at hr
  have hl1 : 1 ≤ s.length := by simp at c1; omega
  refine ww ?_
  refine AW_loopL (ι := Nat) (fun i => [(0, .d (.str s)), (6, .d (.int .i64 (i : Int)))]) (fun _ => []) (fun i => i ≤ s.length ∧ isFld (s.drop i) = isFld s) (fun i => s.length - i) 0 ⟨by omega, by simp⟩ ⟨.refl _, .refl _, trivial⟩ (HLe.refl _) ?_
  rintro i ⟨hi, hg⟩
  have hwr : IntKind.i64.wrap ((i : Int) + 1) = ((i + 1 : Nat) : Int) := by rw [wrap_id (by omega)]; simp
  refine ww ?_
  refine AW_condL rfl (fun h1 => ?_) (fun h1 => ?_)
  · have h1' : i < s.length := by simpa using h1
    have hsa := strAt_bI h1'
    rw [drop_cons h1', isFld, List.all_cons] at hg
    have hup := isUp_dec s[i]
    have hbe := bI_eq (c := s[i]) (n := 60) (by omega)
    generalize s[i] = c at hsa hg hup hbe
    refine ww ?_
    refine AW_condL rfl (fun h2 => ?_) (fun h2 => ?_)
    · have h2' : (decide (c = 60) || isUp c) = false := by
        rw [hsa] at h2
        have hbe' : (bI c != 60) = !decide (c = 60) := by unfold bne; exact congrArg _ hbe
        rw [hbe'] at h2
        rw [hup]
        simp at h2 ⊢
        exact ⟨h2.1, by omega⟩
      rw [h2', Bool.false_and] at hg
      rw [← hg, if_pos rfl] at hr
      subst hr
      subst hfu
      refine ww ?_
      exact wwr
    · have h2' : (decide (c = 60) || isUp c) = true := by
        rw [hsa] at h2
        have hbe' : (bI c != 60) = !decide (c = 60) := by unfold bne; exact congrArg _ hbe
        rw [hbe'] at h2
        rw [hup]
        by_cases hc : c = 60
        · simp [hc]
        · rw [decide_eq_false hc] at h2
          simp at h2 ⊢
          omega
      rw [h2', Bool.true_and] at hg
      refine ww ?_
      exact ⟨i + 1, ⟨h1', hg⟩, by omega, ⟨.refl _, .int hwr, trivial⟩, HLe.refl _⟩
  have h1' : i = s.length := by simp at h1; omega
  subst h1'
  rw [List.drop_length] at hg
  rw [← hg, if_neg (by simp [isFld])] at hr
  generalize trimF s = tr at *
  refine ww ?_
  refine wwc ht ?_
  refine ww ?_
  refine AW_loopC (ι := SpI) (fun x => [(0, .d (.str s)), (7, .d (.str tr)), (8, .ptr 0 0), (9, .d (.int .i64 (atI x.a))), (10, .d (.int .i64 (x.r : Int))), (11, .d (.int .i64 (x.i : Int)))]) (fun x => [.row [.d (.str x.p0), .d (.str x.p1)]])
    (fun x => SpW tr x ∧ splL x.r x.a x.p0 x.p1 (tr.drop x.i) = splL 0 false [] [] tr) (fun x => tr.length - x.i) ⟨0, 0, false, [], []⟩ ⟨⟨by simp, by simp, by simp, by simp, by simp, by simp⟩, by simp⟩ ⟨.refl _, .refl _, .refl _, .refl _, .refl _, .refl _, trivial⟩ (HLe.refl _) ?_
  rintro ⟨i, r, a, p0, p1⟩ ⟨⟨w1, w2, w3, w4, w5, w6⟩, hg⟩
  simp only at w1 w2 w3 w4 w5 w6 hg ⊢
  have hri : r ≤ i := by
    by_cases hp : p0 = []
    · have := w2 hp; omega
    · have := w3 hp; omega
  have hwr : IntKind.i64.wrap ((i : Int) + 1) = ((i + 1 : Nat) : Int) := by rw [wrap_id (by omega)]; simp
  have hwrr : IntKind.i64.wrap ((r : Int) + 1) = ((r + 1 : Nat) : Int) := by rw [wrap_id (by omega)]; simp
  refine ww ?_
  refine AW_condL rfl (fun k1 => ?_) (fun k1 => ?_)
  · have k1' : i < tr.length := by simpa using k1
    have hsa := strAt_60 k1'
    rw [drop_cons k1', splL] at hg
    refine ww ?_
    refine AW_condL rfl (fun k2 => ?_) (fun k2 => ?_)
    · have k2' : tr[i] = 60 := by rw [hsa] at k2; simpa using k2
      rw [if_pos k2'] at hg
      refine ww ?_
      exact ⟨⟨i + 1, r + 1, a, p0, p1⟩, [], ⟨⟨by simp only; omega, fun h => by have := w2 h; simp only; omega, fun h => by have := w3 h; simp only; omega, w4, by simp only; omega, by simp only; omega⟩, hg⟩, by simp only; omega, ⟨.refl _, .refl _, .refl _, .refl _, .int hwrr, .int hwr, trivial⟩, HLe.refl _, Env.below_mono hE (by simp), rfl, rfl⟩
    have k2' : ¬ tr[i] = 60 := by rw [hsa] at k2; simpa using k2
    rw [if_neg k2'] at hg
    refine ww ?_
    have hpi : p0 = [] ↔ i = r := ⟨w2, fun h => by
      by_cases hp : p0 = []
      · exact hp
      · have := w3 hp; omega⟩
    have hat : (atI a = 1) ↔ a = true := by unfold atI; cases a <;> simp
    refine AW_condL rfl (fun k3 => ?_) (fun k3 => ?_)
    · have k3' : r > 2 ∨ (r > 0 ∧ p0 = []) ∨ (r = 2 ∧ a = true) := by
        rw [hpi, ← hat]
        simp at k3
        omega
      rw [if_pos k3'] at hg
      rw [← hg] at hr
      simp only at hr
      subst hr
      subst hfu
      refine ww ?_
      exact wwr
    have k3' : ¬ (r > 2 ∨ (r > 0 ∧ p0 = []) ∨ (r = 2 ∧ a = true)) := by
      rw [hpi, ← hat]
      simp at k3
      omega
    rw [if_neg k3'] at hg
    have hsl : cutL tr (i : Int) (((i + 1 : Nat)) : Int) = [tr[i]] := by
      rw [cutL_cutS]; unfold cutS
      rw [List.take_add_one, List.getElem?_eq_getElem k1']
      rw [List.drop_append_of_le_length (by simp; omega)]
      simp
    generalize tr[i] = c at *
    have hcl : [c].length = 1 := rfl
    have hp0l : p0.length ≤ 2000 := by omega
    have hp1l : p1.length ≤ 2000 := by omega
    have hp0l : p0.length ≤ 2000 := by omega
    have hp1l : p1.length ≤ 2000 := by omega
    refine wwn ?_
    refine AW_condL rfl (fun k4 => ?_) (fun k4 => ?_)
    · have k4' : r = 2 := by simp at k4; omega
      subst k4'
      rw [if_pos rfl] at hg
      have hne : p0 ≠ [] := fun h => k3' (.inr (.inl ⟨by omega, h⟩))
      refine wwn ?_
      refine AW_drawG (fun i => bif Nat.beq i 2 || Nat.beq i 10 then [0] else []) (fun i => bif Nat.beq i 10 then [0] else []) mixed (by kernel_rfl) ?_
      refine wwg ?_
      refine AWg_op (os := []) (fun k hk1 hk2 => OpS_of_pure (arrPtr_ok hT rfl rfl rfl rfl (by decide))) rfl ?_
      refine wwg ?_
      rw [hwr, hsl]
      refine wwg ?_
      refine AWg_op (os := []) (fun k hk1 hk2 => OpS_of_pure (arrPtr_ok hT rfl rfl rfl rfl (by decide))) rfl ?_
      refine wwg ?_
      refine wwn ?_
      exact ⟨⟨i + 1, 0, true, p0, p1 ++ [c]⟩, [], ⟨⟨by simp only; omega, fun h => absurd h hne, fun _ => Nat.succ_pos i, fun _ => hne, by simp [List.length_append]; omega, by simp [List.length_append]; omega⟩, hg⟩, by simp only; omega, ⟨.refl _, .refl _, .refl _, .refl _, .refl _, .int hwr, trivial⟩, HLe.refl _, Env.below_mono hE (by simp), rfl, rfl⟩
    have k4' : ¬ r = 2 := by simp at k4; omega
    rw [if_neg k4'] at hg
    refine wwn ?_
    refine AW_condL rfl (fun k5 => ?_) (fun k5 => ?_)
    · have k5' : r = 1 := by simp at k5; omega
      subst k5'
      have hne : p0 ≠ [] := fun h => k3' (.inr (.inl ⟨by omega, h⟩))
      cases a
      · rw [if_neg (by simp), if_pos rfl] at hg
        have hl2 : (p0 ++ [32]).length ≤ 2001 := by simp; omega
        refine wwn ?_
        refine AWk_op (OpS_of_pure (arrPtr_ok hT rfl rfl rfl rfl (by decide))) rfl ?_
        refine wwn ?_
        refine AWk_op (OpS_of_pure (arrPtr_ok hT rfl rfl rfl rfl (by decide))) rfl ?_
        refine wwn ?_
        refine AW_drawG (fun i => bif Nat.beq i 2 || Nat.beq i 10 then [0] else []) (fun i => bif Nat.beq i 10 then [0] else []) mixed (by kernel_rfl) ?_
        refine wwg ?_
        refine AWg_op (os := []) (fun k hk1 hk2 => OpS_of_pure (arrPtr_ok hT rfl rfl rfl rfl (by decide))) rfl ?_
        refine wwg ?_
        rw [hwr, hsl]
        refine wwg ?_
        refine AWg_op (os := []) (fun k hk1 hk2 => OpS_of_pure (arrPtr_ok hT rfl rfl rfl rfl (by decide))) rfl ?_
        refine wwg ?_
        refine wwn ?_
        exact ⟨⟨i + 1, 0, false, p0 ++ [32] ++ [c], p1⟩, [], ⟨⟨by simp only; omega, fun h => absurd h (by simp), fun _ => Nat.succ_pos i, fun h => absurd h (by simp), by simp [List.length_append]; omega, by simp [List.length_append]; omega⟩, hg⟩, by simp only; omega, ⟨.refl _, .refl _, .refl _, .refl _, .refl _, .int hwr, trivial⟩, HLe.refl _, Env.below_mono hE (by simp), rfl, rfl⟩
      · rw [if_pos rfl, if_pos rfl] at hg
        have hl2 : (p1 ++ [32]).length ≤ 2001 := by simp; omega
        refine wwn ?_
        refine AWk_op (OpS_of_pure (arrPtr_ok hT rfl rfl rfl rfl (by decide))) rfl ?_
        refine wwn ?_
        refine AWk_op (OpS_of_pure (arrPtr_ok hT rfl rfl rfl rfl (by decide))) rfl ?_
        refine wwn ?_
        refine AW_drawG (fun i => bif Nat.beq i 2 || Nat.beq i 10 then [0] else []) (fun i => bif Nat.beq i 10 then [0] else []) mixed (by kernel_rfl) ?_
        refine wwg ?_
        refine AWg_op (os := []) (fun k hk1 hk2 => OpS_of_pure (arrPtr_ok hT rfl rfl rfl rfl (by decide))) rfl ?_
        refine wwg ?_
        rw [hwr, hsl]
        refine wwg ?_
        refine AWg_op (os := []) (fun k hk1 hk2 => OpS_of_pure (arrPtr_ok hT rfl rfl rfl rfl (by decide))) rfl ?_
        refine wwg ?_
        refine wwn ?_
        exact ⟨⟨i + 1, 0, true, p0, p1 ++ [32] ++ [c]⟩, [], ⟨⟨by simp only; omega, fun h => absurd h hne, fun _ => Nat.succ_pos i, fun _ => hne, by simp [List.length_append]; omega, by simp [List.length_append]; omega⟩, hg⟩, by simp only; omega, ⟨.refl _, .refl _, .refl _, .refl _, .refl _, .int hwr, trivial⟩, HLe.refl _, Env.below_mono hE (by simp), rfl, rfl⟩
    have k5' : r = 0 := by simp at k5; omega
    subst k5'
    simp only [show ¬ ((0 : Nat) = 1) by omega, if_false, List.append_nil] at hg
    cases a
    · rw [if_neg (by simp)] at hg
      refine wwn ?_
      refine AW_drawG (fun i => bif Nat.beq i 2 || Nat.beq i 10 then [0] else []) (fun i => bif Nat.beq i 10 then [0] else []) mixed (by kernel_rfl) ?_
      refine wwg ?_
      refine AWg_op (os := []) (fun k hk1 hk2 => OpS_of_pure (arrPtr_ok hT rfl rfl rfl rfl (by decide))) rfl ?_
      refine wwg ?_
      rw [hwr, hsl]
      refine wwg ?_
      refine AWg_op (os := []) (fun k hk1 hk2 => OpS_of_pure (arrPtr_ok hT rfl rfl rfl rfl (by decide))) rfl ?_
      refine wwg ?_
      refine wwn ?_
      exact ⟨⟨i + 1, 0, false, p0 ++ [c], p1⟩, [], ⟨⟨by simp only; omega, fun h => absurd h (by simp), fun _ => Nat.succ_pos i, fun h => absurd h (by simp), by simp [List.length_append]; omega, by simp [List.length_append]; omega⟩, hg⟩, by simp only; omega, ⟨.refl _, .refl _, .refl _, .refl _, .refl _, .int hwr, trivial⟩, HLe.refl _, Env.below_mono hE (by simp), rfl, rfl⟩
    · rw [if_pos rfl] at hg
      have hne : p0 ≠ [] := w4 rfl
      refine wwn ?_
      refine AW_drawG (fun i => bif Nat.beq i 2 || Nat.beq i 10 then [0] else []) (fun i => bif Nat.beq i 10 then [0] else []) mixed (by kernel_rfl) ?_
      refine wwg ?_
      refine AWg_op (os := []) (fun k hk1 hk2 => OpS_of_pure (arrPtr_ok hT rfl rfl rfl rfl (by decide))) rfl ?_
      refine wwg ?_
      rw [hwr, hsl]
      refine wwg ?_
      refine AWg_op (os := []) (fun k hk1 hk2 => OpS_of_pure (arrPtr_ok hT rfl rfl rfl rfl (by decide))) rfl ?_
      refine wwg ?_
      refine wwn ?_
      exact ⟨⟨i + 1, 0, true, p0, p1 ++ [c]⟩, [], ⟨⟨by simp only; omega, fun h => absurd h hne, fun _ => Nat.succ_pos i, fun _ => hne, by simp [List.length_append]; omega, by simp [List.length_append]; omega⟩, hg⟩, by simp only; omega, ⟨.refl _, .refl _, .refl _, .refl _, .refl _, .int hwr, trivial⟩, HLe.refl _, Env.below_mono hE (by simp), rfl, rfl⟩
  have k1' : i = tr.length := by simp at k1; omega
  subst k1'
  rw [List.drop_length, splL] at hg
  rw [← hg] at hr
  simp only at hr
  refine wwn ?_
  refine AWk_op (OpS_of_pure (arrPtr_ok hT rfl rfl rfl rfl (by decide))) rfl ?_
  refine ww ?_
  refine AW_condL rfl (fun k6 => ?_) (fun k6 => ?_)
  · rw [if_pos (by simpa using k6)] at hr
    subst hr
    subst hfu
    refine ww ?_
    exact wwr
  rw [if_neg (by simpa using k6)] at hr
  subst hr
  simp only [decide_true, Bool.true_and] at hfu
  have hw1 : IntKind.i64.wrap ((s.length : Int) - 1) = (s.length : Int) - 1 := wrap_id (by omega)
  refine ww ?_
  refine AWd_op (OpS_of_pure (arrPtr_ok hT rfl rfl rfl rfl (by decide))) rfl rfl ?_
  refine ww ?_
  refine AWd_op (OpS_of_pure (arrPtr_ok hT rfl rfl rfl rfl (by decide))) rfl rfl ?_
  refine ww ?_
  subst hfu
  rw [hw1]
  exact rq ⟨rfl, rfl⟩ rfl (.refl _)
end Tdoc
/- ref11.Parse. -/
set_option linter.unusedVariables false
set_option linter.unusedSimpArgs false
namespace Tdoc
open Go Go.Proofs

theorem cutS_cutS (s : List UInt8) (a b c d : Nat) : cutS (cutS s a b) c d = cutS s (a + c) (min (a + d) b) := by
  unfold cutS
  rw [List.take_drop, List.drop_drop, List.take_take]
theorem cutS_at (s : List UInt8) (a b i : Nat) (h : a + i < b) : (cutS s a b).getD i 0 = s.getD (a + i) 0 := by
  unfold cutS
  rw [List.getD_eq_getElem?_getD, List.getD_eq_getElem?_getD, List.getElem?_drop, List.getElem?_take, if_pos h]
theorem cutS_one (s : List UInt8) (i : Nat) (h : i < s.length) : cutS s i (i + 1) = [s.getD i 0] := by
  unfold cutS
  rw [List.take_add_one, List.getElem?_eq_getElem h, List.drop_append_of_le_length (by simp; omega), List.getD_eq_getElem?_getD, List.getElem?_eq_getElem h]
  simp
theorem take_cutS (s : List UInt8) (n : Nat) : s.take n = cutS s 0 n := rfl
theorem right_at (s t : List UInt8) (i : Nat) (hi : i < t.length) (hs : s.length ≤ 1000000) : Spec Tryz.prog 214 [.d (.str s), .d (.int .u8 (strAt t (i : Int)))] [] (fun r h' => r = .d (.bool (rightF s (t.getD i 0))) ∧ h' = []) := by
  rw [strAt_bI hi]
  have := right_spec s t[i] hs
  rw [List.getD_eq_getElem?_getD, List.getElem?_eq_getElem hi]
  exact this
theorem dg_or (c0 : UInt8) (d : List UInt8) : decide ([c0] = [60] ∨ [c0] = d) = (([c0] == [60]) || decide (d = [c0])) := by
  by_cases g1 : d = [c0]
  · subst g1; simp
  · have g1' : ¬ [c0] = d := fun h => g1 h.symm
    by_cases g2 : c0 = 60 <;> simp [g1, g1', g2]
theorem od_or (f : Int) (e : UInt8) (od d t : List UInt8) (h : f = 3 → [e] = od) : decide (f ≠ 3 ∨ od = d ∨ (t = [] ∧ od = [60])) = !((f == 3) && !decide (d = [e]) && !((t == []) && decide (e = 60))) := by
  by_cases h3 : f = 3
  · subst h3
    have h' := h rfl
    subst h'
    by_cases g1 : d = [e]
    · subst g1; simp
    · have g1' : ¬ [e] = d := fun h => g1 h.symm
      have ht : (t == []) = decide (t = []) := by cases t <;> simp
      rw [ht]
      by_cases g3 : e = 60
      · subst g3
        by_cases g2 : t = [] <;> simp [g1, g1', g2]
      · by_cases g2 : t = [] <;> simp [g1, g1', g2, g3]
  · have : (f == 3) = false := by simpa using h3
    rw [this]; simp [h3]
theorem splitR_len (s : List UInt8) : (splitR s).1.length ≤ s.length ∧ (splitR s).2.1.length ≤ s.length := by rw [← split_agree]; exact splitP_len s
theorem numF_len (f : Int) (x : Fl) (hn : x.num.length ≤ 44) (ho : x.opt.length ≤ 44) : (numF f x).1.length ≤ 88 ∧ (numF f x).2.1.length ≤ 44 := by
  have h1 := trimF_le x.num
  have h2 := trimF_le x.opt
  have h3 := trimF_le (x.opt.drop (lenTo x.opt + 1))
  simp only [List.length_drop] at h3
  unfold numF
  split
  · simp only; omega
  split
  · simp
  split
  · simp
  · simp only [List.length_append, List.length_take]; omega
theorem cutS_le (s : List UInt8) (a b : Nat) : (cutS s a b).length ≤ s.length := by unfold cutS; simp; omega
structure TailW (f : Int) (b days : List UInt8) (x : Fl) : Prop where
  hf : f = 1 ∨ f = 2 ∨ f = 3
  lb : 30 ≤ b.length ∧ b.length ≤ 44
  lb3 : f = 3 → b.length = 44
  ld : days.length = 15
  bir : days.take 6 = x.bir
  sex : cutS days 7 8 = x.sex
  exp : cutS days 8 14 = x.exp
  bd : [days.getD 6 0] = x.bd
  ed : [days.getD 14 0] = x.ed
  od : f = 3 → [b.getD 42 0] = x.od
  comp : [b.getD (b.length - 1) 0] = x.comp
  dg : x.dg.length = 1
  ln : x.num.length ≤ 44
  lo : x.opt.length ≤ 44
  la : x.all.length ≤ 200
  lm : x.names.length ≤ 44
  lk : x.kind.length ≤ 100 ∧ x.state.length ≤ 100 ∧ x.nat.length ≤ 100 ∧ x.sec.length ≤ 100 ∧ x.sex.length ≤ 100
  vn : validS x.num = true
  vb : validS x.bir = true
  ve : validS x.exp = true
  vo : validS x.opt = true
  va : validS x.all = true
set_option maxHeartbeats 8000000 in
set_option maxRecDepth 100000 in
theorem ParseRef_walk (ls : List (List UInt8)) (hl : ls.length ≤ 1000) (a b : List UInt8) (ha : (strsD ls)[((0 : Int)).toNat]? = some [.str a]) (hb : (strsD ls)[((1 : Int)).toNat]? = some [.str b]) (hln : ∀ k, (ls.getD k []).length ≤ 1000) (f : Int) (hsh0 : shapeF ls = f) (hf0 : f ≠ 0)
    (hla : 30 ≤ a.length) :
    Spec Tryz.prog 144 [.d (.sl 1 (strsD ls))] [] (fun r h' => r = .tup [zAV (parseZ ls).1, .d (.int .i64 (parseZ ls).2)] ∧ h' = []) := by
  have hsh := Shape_spec ls
  have hsl : (strsD ls).length = ls.length := by simp [strsD]
  generalize hfin : parseZ ls = fin
  unfold parseZ at hfin
  rw [hsh0, if_neg hf0] at hfin
  rw [hsh0] at hsh
  refine Spec_of_body hT Tryz.func144 rfl rfl rfl rfl ?_; intro E hE
  refine ww ?_
  refine wwc hsh ?_
  refine ww ?_
  refine AW_condL rfl (fun c1 => ?_) (fun c1 => ?_)
  · exact absurd (by simpa using c1) hf0
  refine ww ?_
  refine AW_loopL (ι := Nat) (fun i => [(0, .d (.sl 1 (strsD ls))), (2, .ptr 0 0), (4, .d (.int .i64 f)), (5, .d (.int .i64 (i : Int)))]) (fun _ => [.row (zCells zon0)]) (fun i => i ≤ ls.length ∧ (ls.drop i).all validS = ls.all validS) (fun i => ls.length - i) 0 ⟨by omega, by simp⟩ ⟨.refl _, .refl _, .refl _, .refl _, trivial⟩ (HLe.refl _) ?_
  rintro k ⟨hk, hg⟩
  have hwr : IntKind.i64.wrap ((k : Int) + 1) = ((k + 1 : Nat) : Int) := by rw [wrap_id (by omega)]; simp
  refine ww ?_
  refine AW_condL rfl (fun c2 => ?_) (fun c2 => ?_)
  · have hk' : k < ls.length := by rw [hsl] at c2; simpa using c2
    have hat := strsD_at hk'
    have hvl := ValidS_spec (ls.getD k []) (by have := hln k; omega)
    rw [drop_cons hk', List.all_cons] at hg
    have hgd : ls.getD k [] = ls[k] := by rw [List.getD_eq_getElem?_getD, List.getElem?_eq_getElem hk']; rfl
    rw [← hgd] at hg
    generalize ls.getD k [] = s at hat hvl hg
    refine ww ?_
    refine AWk_op (OpS_of_pure (indexAddr_ok hT rfl rfl rfl rfl (by omega) (i := (k : Int)) hat)) rfl ?_
    refine ww ?_
    refine wwc hvl ?_
    refine ww ?_
    refine AW_condL rfl (fun c3 => ?_) (fun c3 => ?_)
    · have hv : validS s = false := by simpa using c3
      rw [hv, Bool.false_and] at hg
      rw [← hg, if_pos rfl] at hfin
      subst hfin
      refine ww ?_
      exact wwr
    have hv : validS s = true := by simpa using c3
    rw [hv, Bool.true_and] at hg
    refine ww ?_
    exact ⟨k + 1, ⟨hk', hg⟩, by omega, ⟨.refl _, .refl _, .refl _, .int hwr, trivial⟩, HLe.refl _⟩
  have hk' : k = ls.length := by rw [hsl] at c2; simp at c2; omega
  subst hk'
  rw [List.drop_length] at hg
  rw [← hg, if_neg (by simp)] at hfin
  refine ww ?_
  refine AWd_op (OpS_of_pure (indexAddr_ok hT rfl rfl rfl rfl (by decide) ha)) rfl rfl ?_
  refine ww ?_
  refine AWd_op (OpS_of_pure (indexAddr_ok hT rfl rfl rfl rfl (by decide) hb)) rfl rfl ?_
  refine wwn ?_
  have tk := TrimRef_spec (a.take 2) (by simp; omega)
  have ts := TrimRef_spec (cutL a 2 5) (by rw [cutL_len a 2 5 (by omega) (by omega)]; decide)
  refine AW_room ?_
  refine AW_drawG (fun i => bif Nat.beq i 8 || Nat.beq i 9 then [1] else []) (fun i => bif Nat.beq i 8 || Nat.beq i 9 then [1] else []) mixed (by kernel_rfl) ?_
  refine wwg ?_
  refine wwdc tk ?_
  refine wwg ?_
  refine wwdc ts ?_
  refine wwg ?_
  refine AWg_op (v := .ptr 1 0) (os := [.row (zCells zon0)]) (fun hx hk1 hk2 => allocAt_ok (i0 := 1) (t := 39) (i := ⟨.struct [(0, 1, false), (1, 1, false), (2, 1, false), (3, 1, false), (4, 1, false), (5, 1, false), (6, 1, false), (7, 1, false), (8, 1, false), (9, 1, false), (10, 1, false), (11, 1, false)], 12, 184, zCells zon0⟩) hT rfl rfl (hk2 1 List.mem_cons_self)) rfl ?_
  refine wwg ?_
  refine AW_seq (AW_region ?_)
  refine wws ?_
  have hlsc : True := trivial
  refine AW_subL (l := [(0, .d (.sl 1 (strsD ls))), (2, .ptr 0 0), (4, .d (.int .i64 f)), (6, .d (.str a)), (7, .d (.str b)), (8, .ptr 1 0), (9, .d (.str [])), (10, .d (.str [])), (11, .d (.str [])), (12, .d (.str [])), (13, .d (.str [])), (14, .d (.str []))])
    (h' := [.row (zCells zon0), .row (zCells ⟨f, trimF (cutS a 0 2), trimF (cutS a 2 5), [], [], [], [], [], [], [], [], []⟩)]) ⟨.refl _, .refl _, .refl _, .refl _, .refl _, .refl _, .refl _, .refl _, .refl _, .refl _, .refl _, .refl _, trivial⟩
    ⟨ObLe.refl _, ⟨.refl _, .refl _, .str (congrArg trimF (cutL_cutS a 2 5)), .refl _, .refl _, .refl _, .refl _, .refl _, .refl _, .refl _, .refl _, .refl _, trivial⟩, trivial⟩ ?_
  refine AW_seq_cut (ι := List UInt8 × Fl) (fun y => [(2, .ptr 0 0), (4, .d (.int .i64 f)), (7, .d (.str b)), (8, .ptr 1 0), (9, .d (.str y.2.num)), (10, .d (.str y.2.dg)), (11, .d (.str y.1)), (12, .d (.str y.2.opt)), (13, .d (.str y.2.all)), (14, .d (.str y.2.names))])
    (fun y => [.row (zCells zon0), .row (zCells ⟨f, trimF y.2.kind, trimF y.2.state, [], [], [], trimF y.2.nat, [], [], [], [], trimF y.2.sec⟩)]) (fun y => TailW f b y.1 y.2 ∧ coreZ f y.2 = fin) ?_ ?_
  · have hinv := shape_inv (ls := ls) (by rw [hsh0]; exact hf0)
    rcases hinv with ⟨a', b', c', rfl, la, lb, lc, hs⟩ | ⟨a', b', rfl, la, lb, hs⟩ | ⟨a', b', rfl, la, lb, hs⟩
    · obtain rfl : a' = a := by injection ha with h; injection h with h; injection h
      obtain rfl : b' = b := by injection hb with h; injection h with h; injection h
      rw [hsh0] at hs
      subst hs
      have hc : (strsD [a', b', c'])[((2 : Int)).toNat]? = some [.str c'] := rfl
      have hall : validS a' = true ∧ validS b' = true ∧ validS c' = true := by have h := hg.symm; simpa using h
      obtain ⟨va, vb, _⟩ := hall
      generalize strsD [a', b', c'] = LS at hc ⊢
      have tn := TrimRef_spec (cutL b' 15 18) (by rw [cutL_len b' 15 18 (by omega) (by omega)]; decide)
      have te := TrimRef_spec (cutL b' 18 29) (by rw [cutL_len b' 18 29 (by omega) (by omega)]; decide)
      have q1 : (cutL a' 5 30).length = 25 := by rw [cutL_len a' 5 30 (by omega) (by omega)]; rfl
      have q2 : (cutL b' 0 7).length = 7 := by rw [cutL_len b' 0 7 (by omega) (by omega)]; rfl
      have q3 : (cutL b' 8 15).length = 7 := by rw [cutL_len b' 8 15 (by omega) (by omega)]; rfl
      have q4 : (cutL b' 18 29).length = 11 := by rw [cutL_len b' 18 29 (by omega) (by omega)]; rfl
      have q5 : (cutL a' 5 30 ++ cutL b' 0 7).length = 32 := by simp [q1, q2]
      have q6 : (cutL a' 5 30 ++ cutL b' 0 7 ++ cutL b' 8 15).length = 39 := by simp [q1, q2, q3]
      refine ww ?_
      refine AW_condL rfl (fun d1 => ?_) (fun d1 => ?_)
      rotate_left
      · exact absurd d1 (by simp)
      refine ww ?_
      refine AWd_op (OpS_of_pure (indexAddr_ok hT rfl rfl rfl rfl (by decide) hc)) rfl rfl ?_
      refine wwn ?_
      refine AW_drawG (fun i => bif Nat.beq i 7 || Nat.beq i 9 then [1] else []) (fun i => bif Nat.beq i 7 || Nat.beq i 9 then [1] else []) mixed (by kernel_rfl) ?_
      refine wwg ?_
      refine wwdc tn ?_
      refine wwg ?_
      refine wwdc te ?_
      refine wwg ?_
      refine ww ?_
      exact ⟨(cutS b' 0 15, fld1 a' b' c'), ⟨⟨.inl rfl, ⟨by omega, by omega⟩, by omega, by rw [cutS_len _ _ _ (by omega)], by rw [take_cutS, cutS_cutS]; rfl, by rw [cutS_cutS]; rfl, by rw [cutS_cutS]; rfl,
        by rw [cutS_at b' 0 15 6 (by omega)]; exact (cutS_one b' 6 (by omega)).symm, by rw [cutS_at b' 0 15 14 (by omega)]; exact (cutS_one b' 14 (by omega)).symm, by omega, by rw [lb]; exact (cutS_one b' 29 (by omega)).symm,
        cutS_len a' 14 15 (by omega), by show (cutS a' 5 14).length ≤ 44; rw [cutS_len a' 5 14 (by omega)]; omega, by show (cutS a' 15 30).length ≤ 44; rw [cutS_len a' 15 30 (by omega)]; omega,
        by show (cutS a' 5 30 ++ cutS b' 0 7 ++ cutS b' 8 15 ++ cutS b' 18 29).length ≤ 200; rw [List.length_append, List.length_append, List.length_append, cutS_len a' 5 30 (by omega), cutS_len b' 0 7 (by omega), cutS_len b' 8 15 (by omega), cutS_len b' 18 29 (by omega)]; omega, by show c'.length ≤ 44; omega,
        ⟨Nat.le_trans (cutS_le a' 0 2) (by omega), Nat.le_trans (cutS_le a' 2 5) (by omega), Nat.le_trans (cutS_le b' 15 18) (by omega), Nat.le_trans (cutS_le b' 18 29) (by omega), Nat.le_trans (cutS_le b' 7 8) (by omega)⟩, validS_cut _ _ va, validS_cut _ _ vb, validS_cut _ _ vb, validS_cut _ _ va, validS_app (validS_app (validS_app (validS_cut _ _ va) (validS_cut _ _ vb)) (validS_cut _ _ vb)) (validS_cut _ _ vb)⟩, hfin⟩,
        ⟨.refl _, .refl _, .refl _, .refl _, .str (cutL_cutS a' 5 14), .str (cutL_cutS a' 14 15), .refl _, .str (cutL_cutS a' 15 30),
          .str (by show cutL a' (5 : Nat) (30 : Nat) ++ cutL b' (0 : Nat) (7 : Nat) ++ cutL b' (8 : Nat) (15 : Nat) ++ cutL b' (18 : Nat) (29 : Nat) = _; rw [cutL_cutS, cutL_cutS, cutL_cutS, cutL_cutS]; rfl), .refl _, trivial⟩,
        ⟨ObLe.refl _, ⟨.refl _, .refl _, .refl _, .refl _, .refl _, .refl _, .str (congrArg trimF (cutL_cutS b' 15 18)), .refl _, .refl _, .refl _, .refl _, .str (congrArg trimF (cutL_cutS b' 18 29)), trivial⟩, trivial⟩⟩
    · obtain rfl : a' = a := by injection ha with h; injection h with h; injection h
      obtain rfl : b' = b := by injection hb with h; injection h with h; injection h
      rw [hsh0] at hs
      subst hs
      have hall : validS a' = true ∧ validS b' = true := by have h := hg.symm; simpa using h
      obtain ⟨va, vb⟩ := hall
      have hfin' : coreZ 2 (fld2 a' b') = fin := by
        rw [← hfin]
        show _ = if a'.length = 36 then coreZ 2 (fld2 a' b') else coreZ 3 (fld3 a' b')
        rw [if_pos la]
      generalize strsD [a', b'] = LS
      have tn := TrimRef_spec (cutL b' 10 13) (by rw [cutL_len b' 10 13 (by omega) (by omega)]; decide)
      have q1 : (cutL b' 0 10).length = 10 := by rw [cutL_len b' 0 10 (by omega) (by omega)]; rfl
      have q2 : (cutL b' 13 20).length = 7 := by rw [cutL_len b' 13 20 (by omega) (by omega)]; rfl
      have q3 : (cutL b' 21 35).length = 35 - 21 := by rw [cutL_len b' 21 35 (by omega) (by omega)]; rfl
      have q5 : (cutL b' 0 10 ++ cutL b' 13 20).length = 17 := by simp [q1, q2]
      refine ww ?_
      refine AW_condL rfl (fun d1 => ?_) (fun d1 => ?_)
      · exact absurd d1 (by simp)
      refine ww ?_
      refine AW_condL rfl (fun d2 => ?_) (fun d2 => ?_)
      rotate_left
      · exact absurd d2 (by simp)
      refine AW_seq ?_
      refine wx mixed ?_
      refine wwn ?_
      refine AW_drawG (fun i => bif Nat.beq i 12 then [1] else []) (fun i => bif Nat.beq i 12 then [1] else []) mixed (by kernel_rfl) ?_
      refine wwg ?_
      refine wwdc tn ?_
      refine wwg ?_
      refine ww ?_
      exact ⟨(cutS b' 13 28, fld2 a' b'), ⟨⟨.inr (.inl rfl), ⟨by omega, by omega⟩, by omega, by rw [cutS_len _ _ _ (by omega)], by rw [take_cutS, cutS_cutS]; rfl, by rw [cutS_cutS]; rfl, by rw [cutS_cutS]; rfl,
        by rw [cutS_at b' 13 28 6 (by omega)]; exact (cutS_one b' 19 (by omega)).symm, by rw [cutS_at b' 13 28 14 (by omega)]; exact (cutS_one b' 27 (by omega)).symm, by omega, by rw [lb]; exact (cutS_one b' 35 (by omega)).symm,
        cutS_len b' 9 10 (by omega), by show (cutS b' 0 9).length ≤ 44; rw [cutS_len b' 0 9 (by omega)]; omega, by show (cutS b' 28 35).length ≤ 44; rw [cutS_len b' 28 35 (by omega)]; omega,
        by show (cutS b' 0 10 ++ cutS b' 13 20 ++ cutS b' 21 35).length ≤ 200; rw [List.length_append, List.length_append, cutS_len b' 0 10 (by omega), cutS_len b' 13 20 (by omega), cutS_len b' 21 35 (by omega)]; omega, by show (cutS a' 5 36).length ≤ 44; rw [cutS_len a' 5 36 (by omega)]; omega,
        ⟨Nat.le_trans (cutS_le a' 0 2) (by omega), Nat.le_trans (cutS_le a' 2 5) (by omega), Nat.le_trans (cutS_le b' 10 13) (by omega), Nat.zero_le _, Nat.le_trans (cutS_le b' 20 21) (by omega)⟩, validS_cut _ _ vb, validS_cut _ _ vb, validS_cut _ _ vb, validS_cut _ _ vb, validS_app (validS_app (validS_cut _ _ vb) (validS_cut _ _ vb)) (validS_cut _ _ vb)⟩, hfin'⟩,
        ⟨.refl _, .refl _, .refl _, .refl _, .refl _, .str (cutL_cutS b' 9 10), .str (cutL_cutS b' 13 28), .str (cutL_cutS b' 28 35),
          .str (by show cutL b' (0 : Nat) (10 : Nat) ++ cutL b' (13 : Nat) (20 : Nat) ++ cutL b' (21 : Nat) (35 : Nat) = _; rw [cutL_cutS, cutL_cutS, cutL_cutS]; rfl), .str (cutS_drop a' 5 36 (by omega)).symm, trivial⟩,
        ⟨ObLe.refl _, ⟨.refl _, .refl _, .refl _, .refl _, .refl _, .refl _, .str (congrArg trimF (cutL_cutS b' 10 13)), .refl _, .refl _, .refl _, .refl _, .refl _, trivial⟩, trivial⟩⟩
    · obtain rfl : a' = a := by injection ha with h; injection h with h; injection h
      obtain rfl : b' = b := by injection hb with h; injection h with h; injection h
      rw [hsh0] at hs
      subst hs
      have hall : validS a' = true ∧ validS b' = true := by have h := hg.symm; simpa using h
      obtain ⟨va, vb⟩ := hall
      have hfin' : coreZ 3 (fld3 a' b') = fin := by
        rw [← hfin]
        show _ = if a'.length = 36 then coreZ 2 (fld2 a' b') else coreZ 3 (fld3 a' b')
        rw [if_neg (by omega)]
      generalize strsD [a', b'] = LS
      have tn := TrimRef_spec (cutL b' 10 13) (by rw [cutL_len b' 10 13 (by omega) (by omega)]; decide)
      have q1 : (cutL b' 0 10).length = 10 := by rw [cutL_len b' 0 10 (by omega) (by omega)]; rfl
      have q2 : (cutL b' 13 20).length = 7 := by rw [cutL_len b' 13 20 (by omega) (by omega)]; rfl
      have q3 : (cutL b' 21 43).length = 43 - 21 := by rw [cutL_len b' 21 43 (by omega) (by omega)]; rfl
      have q5 : (cutL b' 0 10 ++ cutL b' 13 20).length = 17 := by simp [q1, q2]
      refine ww ?_
      refine AW_condL rfl (fun d1 => ?_) (fun d1 => ?_)
      · exact absurd d1 (by simp)
      refine ww ?_
      refine AW_condL rfl (fun d2 => ?_) (fun d2 => ?_)
      · exact absurd d2 (by simp)
      refine AW_seq ?_
      refine wx mixed ?_
      refine wwn ?_
      refine AW_drawG (fun i => bif Nat.beq i 12 then [1] else []) (fun i => bif Nat.beq i 12 then [1] else []) mixed (by kernel_rfl) ?_
      refine wwg ?_
      refine wwdc tn ?_
      refine wwg ?_
      refine ww ?_
      exact ⟨(cutS b' 13 28, fld3 a' b'), ⟨⟨.inr (.inr rfl), ⟨by omega, by omega⟩, by omega, by rw [cutS_len _ _ _ (by omega)], by rw [take_cutS, cutS_cutS]; rfl, by rw [cutS_cutS]; rfl, by rw [cutS_cutS]; rfl,
        by rw [cutS_at b' 13 28 6 (by omega)]; exact (cutS_one b' 19 (by omega)).symm, by rw [cutS_at b' 13 28 14 (by omega)]; exact (cutS_one b' 27 (by omega)).symm, (fun _ => (cutS_one b' 42 (by omega)).symm), by rw [lb]; exact (cutS_one b' 43 (by omega)).symm,
        cutS_len b' 9 10 (by omega), by show (cutS b' 0 9).length ≤ 44; rw [cutS_len b' 0 9 (by omega)]; omega, by show (cutS b' 28 42).length ≤ 44; rw [cutS_len b' 28 42 (by omega)]; omega,
        by show (cutS b' 0 10 ++ cutS b' 13 20 ++ cutS b' 21 43).length ≤ 200; rw [List.length_append, List.length_append, cutS_len b' 0 10 (by omega), cutS_len b' 13 20 (by omega), cutS_len b' 21 43 (by omega)]; omega, by show (cutS a' 5 44).length ≤ 44; rw [cutS_len a' 5 44 (by omega)]; omega,
        ⟨Nat.le_trans (cutS_le a' 0 2) (by omega), Nat.le_trans (cutS_le a' 2 5) (by omega), Nat.le_trans (cutS_le b' 10 13) (by omega), Nat.zero_le _, Nat.le_trans (cutS_le b' 20 21) (by omega)⟩, validS_cut _ _ vb, validS_cut _ _ vb, validS_cut _ _ vb, validS_cut _ _ vb, validS_app (validS_app (validS_cut _ _ vb) (validS_cut _ _ vb)) (validS_cut _ _ vb)⟩, hfin'⟩,
        ⟨.refl _, .refl _, .refl _, .refl _, .refl _, .str (cutL_cutS b' 9 10), .str (cutL_cutS b' 13 28), .str (cutL_cutS b' 28 42),
          .str (by show cutL b' (0 : Nat) (10 : Nat) ++ cutL b' (13 : Nat) (20 : Nat) ++ cutL b' (21 : Nat) (43 : Nat) = _; rw [cutL_cutS, cutL_cutS, cutL_cutS]; rfl), .str (cutS_drop a' 5 44 (by omega)).symm, trivial⟩,
        ⟨ObLe.refl _, ⟨.refl _, .refl _, .refl _, .refl _, .refl _, .refl _, .str (congrArg trimF (cutL_cutS b' 10 13)), .refl _, .refl _, .refl _, .refl _, .refl _, trivial⟩, trivial⟩⟩
  · rintro ⟨days, x⟩ ⟨W, hcz⟩
    simp only at W hcz ⊢
    have tn := TrimRef_spec x.num (by have := W.ln; omega)
    have tp := TrimRef_spec x.opt (by have := W.lo; omega)
    have w1 := W.ld
    have w2 := W.lb
    have w3 := W.lb3
    refine AW_seq ?_
    refine AW_drawG (fun i => bif Nat.beq i 11 || Nat.beq i 13 || Nat.beq i 15 || Nat.beq i 17 || Nat.beq i 19 then [1] else []) (fun i => bif Nat.beq i 11 || Nat.beq i 13 || Nat.beq i 15 || Nat.beq i 17 || Nat.beq i 19 then [1] else []) mixed (by kernel_rfl) ?_
    refine wwg ?_
    refine wwdc tn ?_
    refine wwg ?_
    refine wwdc tp ?_
    refine wwg ?_
    obtain ⟨c0, hdg⟩ : ∃ c0, x.dg = [c0] := by
      have := W.dg
      match h : x.dg, this with
      | [c], _ => exact ⟨c, rfl⟩
    refine AW_subL (l := [(2, .ptr 0 0), (4, .d (.int .i64 f)), (7, .d (.str b)), (8, .ptr 1 0), (9, .d (.str x.num)), (10, .d (.str [c0])), (11, .d (.str days)), (12, .d (.str x.opt)), (13, .d (.str x.all)), (14, .d (.str x.names))])
      (h' := [.row (zCells zon0), .row (zCells ⟨f, trimF x.kind, trimF x.state, [], [], trimF x.num, trimF x.nat, x.bir, x.sex, x.exp, trimF x.opt, trimF x.sec⟩)]) ⟨.refl _, .refl _, .refl _, .refl _, .refl _, .str hdg, .refl _, .refl _, .refl _, .refl _, trivial⟩
      ⟨ObLe.refl _, ⟨.refl _, .refl _, .refl _, .refl _, .refl _, .refl _, .refl _, .str W.bir, .str ((cutL_cutS days 7 8).trans W.sex), .str ((cutL_cutS days 8 14).trans W.exp), .refl _, .refl _, trivial⟩, trivial⟩ ?_
    have lbir : x.bir.length = 6 := by rw [← W.bir]; simp; omega
    have lexp : x.exp.length = 6 := by rw [← W.exp, cutS_len _ _ _ (by omega)]
    have r1 := right_spec x.num c0 (by have := W.ln; omega)
    have r2 := right_at x.bir days 6 (by omega) (by omega)
    have r3 := right_at x.exp days 14 (by omega) (by omega)
    obtain ⟨a1, ha1⟩ : ∃ a1, a1 = (([c0] : List UInt8) == [60]) := ⟨_, rfl⟩
    have hA : decide (x.dg = [60] ∨ x.dg = digitS x.num) = (a1 || rightF x.num c0) := by
      unfold rightF
      rw [W.vn, hdg, ha1, Bool.true_and]
      exact dg_or c0 _
    have hB : decide (x.bd = digitS x.bir) = rightF x.bir (days.getD 6 0) := by unfold rightF; rw [W.vb, ← W.bd, Bool.true_and, decide_eq_decide]; exact eq_comm
    have hC : decide (x.ed = digitS x.exp) = rightF x.exp (days.getD 14 0) := by unfold rightF; rw [W.ve, ← W.ed, Bool.true_and, decide_eq_decide]; exact eq_comm
    have hEE : decide (x.comp = digitS x.all) = rightF x.all (b.getD (b.length - 1) 0) := by unfold rightF; rw [W.va, ← W.comp, Bool.true_and, decide_eq_decide]; exact eq_comm
    have hD : decide (f ≠ 3 ∨ x.od = digitS x.opt ∨ (trimF x.opt = [] ∧ x.od = [60])) = !((f == 3) && !rightF x.opt (b.getD 42 0) && !((trimF x.opt == []) && decide (b.getD 42 0 = 60))) := by
      unfold rightF
      rw [W.vo, Bool.true_and]
      exact od_or f _ _ _ _ W.od
    have hck : chkF f x = ((a1 || rightF x.num c0) && (rightF x.bir (days.getD 6 0) && (rightF x.exp (days.getD 14 0) && ((!((f == 3) && !rightF x.opt (b.getD 42 0) && !((trimF x.opt == []) && decide (b.getD 42 0 = 60)))) && rightF x.all (b.getD (b.length - 1) 0))))) := by
      unfold chkF; rw [hA, hB, hC, hD, hEE]
    unfold coreZ at hcz
    rw [hck] at hcz
    have r5 := fun h : f = 3 => right_at x.opt b 42 (by have := w3 h; omega) (by have := W.lo; omega)
    have r6 := right_at x.all b (b.length - 1) (by omega) (by have := W.la; omega)
    clear hA hB hC hD hEE hck
    generalize rightF x.num c0 = a2 at *
    generalize rightF x.bir (days.getD 6 0) = a3 at *
    generalize rightF x.exp (days.getD 14 0) = a4 at *
    generalize rightF x.all (b.getD (b.length - 1) 0) = a6 at *
    refine AW_seq ?_
    refine ww ?_
    refine wwgc r1 ?_
    refine ww ?_
    refine wwgc r2 ?_
    refine ww ?_
    refine wwgc r3 ?_
    refine ww ?_
    refine AW_condL rfl (fun k1 => ?_) (fun k1 => ?_)
    · have hx : ((a1 || a2) && (a3 && (a4 && ((!((f == 3) && !rightF x.opt (b.getD 42 0) && !((trimF x.opt == []) && decide (b.getD 42 0 = 60)))) && a6)))) = false := by
        have k1' : (!a1 && !a2 || !a3 || !a4) = true := by rw [ha1]; exact k1
        clear k1 ha1
        revert k1'
        cases a1 <;> cases a2 <;> cases a3 <;> cases a4 <;> simp
      rw [if_pos hx] at hcz
      subst hcz
      refine ww ?_
      exact wwr
    have k1' : (!a1 && !a2 || !a3 || !a4) = false := by rw [ha1]; exact k1
    have hx : ((a1 || a2) && (a3 && (a4 && ((!((f == 3) && !rightF x.opt (b.getD 42 0) && !((trimF x.opt == []) && decide (b.getD 42 0 = 60)))) && a6)))) = ((!((f == 3) && !rightF x.opt (b.getD 42 0) && !((trimF x.opt == []) && decide (b.getD 42 0 = 60)))) && a6) := by
      clear k1 ha1
      revert k1'
      cases a1 <;> cases a2 <;> cases a3 <;> cases a4 <;> simp
    rw [hx] at hcz
    have hw42 : (strAt b 42 == 60) = decide (b.getD 42 0 = 60) ∨ f ≠ 3 := by
      by_cases h3 : f = 3
      · left
        have := w3 h3
        have h42 := strAt_60 (s := b) (i := 42) (by omega)
        rw [List.getD_eq_getElem?_getD, List.getElem?_eq_getElem (by omega)]
        exact h42
      · exact .inr h3
    refine ww ?_
    refine AWk_gop rfl rfl rfl (fun hg => ⟨(sg (C := True) hg).1, callS0 rfl rfl (r5 (by simpa [gval] using hg)) rfl rfl rfl⟩) ?_
    have hdd : ((f == 3) && !rightF x.opt (b.getD 42 0) && !((trimF x.opt == []) && strAt b 42 == 60)) = ((f == 3) && !rightF x.opt (b.getD 42 0) && !((trimF x.opt == []) && decide (b.getD 42 0 = 60))) := by
      rcases hw42 with h | h
      · rw [h]
      · have : (f == 3) = false := by simpa using h
        rw [this]; simp
    rw [← hdd] at hcz
    clear hw42 hdd
    have hwl : IntKind.i64.wrap ((b.length : Int) - 1) = ((b.length - 1 : Nat) : Int) := by rw [wrap_id (by omega)]; omega
    refine ww ?_
    refine AW_condL rfl (fun k2 => ?_) (fun k2 => ?_)
    · rw [k2, if_pos (by simp)] at hcz
      subst hcz
      refine ww ?_
      exact wwr
    rw [k2, Bool.not_false, Bool.true_and] at hcz
    refine ww ?_
    rw [hwl]
    refine ww ?_
    refine wwc r6 ?_
    refine ww ?_
    refine AW_condL rfl (fun k3 => ?_) (fun k3 => ?_)
    · rw [if_pos (by simpa using k3)] at hcz
      subst hcz
      refine ww ?_
      exact wwr
    rw [if_neg (by simpa using k3)] at hcz
    clear k1 k1' k2 k3 hx r2 r3 r6 r5
    refine wwe ?_
    have hlt := lenTo_le x.opt
    refine AW_seq_cut (ι := List UInt8 × List UInt8) (fun _ => [(2, .ptr 0 0), (8, .ptr 1 0), (14, .d (.str x.names))]) (fun y => [.row (zCells zon0), .row (zCells ⟨f, trimF x.kind, trimF x.state, [], [], y.1, trimF x.nat, x.bir, x.sex, x.exp, y.2, trimF x.sec⟩)])
      (fun y => numF f x = (y.1, y.2, 0)) ?_ ?_
    · refine ww ?_
      refine AW_condL rfl (fun k4 => ?_) (fun k4 => ?_)
      rotate_left
      · refine ww ?_
        refine ⟨(trimF x.num, trimF x.opt), ?_, ⟨.refl _, .refl _, .refl _, trivial⟩, HLe.refl _⟩
        unfold numF
        rw [if_pos (by rw [hdg]; simpa using k4)]
      have h60 : ¬ x.dg ≠ [60] := by rw [hdg]; simpa using k4
      refine ww ?_
      refine AW_loopL (ι := Nat) (fun k => [(2, .ptr 0 0), (4, .d (.int .i64 f)), (8, .ptr 1 0), (9, .d (.str x.num)), (12, .d (.str x.opt)), (14, .d (.str x.names)), (16, .d (.int .i64 (k : Int)))])
        (fun _ => [.row (zCells zon0), .row (zCells ⟨f, trimF x.kind, trimF x.state, [], [], trimF x.num, trimF x.nat, x.bir, x.sex, x.exp, trimF x.opt, trimF x.sec⟩)])
        (fun k => k ≤ x.opt.length ∧ ∀ (i : Nat) (c : UInt8), i < k → x.opt[i]? = some c → c ≠ 60) (fun k => x.opt.length - k) 0 ⟨by omega, fun i c hi => by omega⟩ ⟨.refl _, .refl _, .refl _, .refl _, .refl _, .refl _, .refl _, trivial⟩ (HLe.refl _) ?_
      rintro k ⟨hk2, hne⟩
      have hwr2 : IntKind.i64.wrap ((k : Int) + 1) = ((k + 1 : Nat) : Int) := by have := W.lo; rw [wrap_id (by omega)]; simp
      refine ww ?_
      refine AW_condL rfl (fun k5 => ?_) (fun k5 => ?_)
      · have hkl : k < x.opt.length := by simp at k5; omega
        rw [show (strAt x.opt (k : Int) != 60) = !(strAt x.opt (k : Int) == 60) from rfl, strAt_60 hkl] at k5
        have hck : x.opt[k] ≠ 60 := by simp at k5; exact k5.2
        refine ww ?_
        refine ⟨k + 1, ⟨hkl, fun i c hi hic => ?_⟩, by omega, ⟨.refl _, .refl _, .refl _, .refl _, .refl _, .refl _, .int hwr2, trivial⟩, HLe.refl _⟩
        by_cases he : i = k
        · subst he
          rw [List.getElem?_eq_getElem hkl] at hic
          cases hic; exact hck
        · exact hne i c (by omega) hic
      have hkk : lenTo x.opt = k := by
        refine lenTo_is hne hk2 ?_
        by_cases hkl : k < x.opt.length
        · right
          rw [show (strAt x.opt (k : Int) != 60) = !(strAt x.opt (k : Int) == 60) from rfl, strAt_60 hkl] at k5
          rw [List.getElem?_eq_getElem hkl]
          simp [hkl] at k5
          rw [k5]
        · left; omega
      subst hkk
      generalize hkd : lenTo x.opt = k at *
      refine ww ?_
      refine AW_condL rfl (fun k6 => ?_) (fun k6 => ?_)
      · have hn1 : numF f x = ([], [], 1) := by
          unfold numF
          rw [if_neg h60, if_pos (by rw [hkd]; simp at k6; omega)]
        rw [hn1, if_pos (by simp)] at hcz
        subst hcz
        refine ww ?_
        exact wwr
      have k6' : 2 ≤ k ∧ k < x.opt.length ∧ f ≠ 3 := by simp at k6; omega
      have hwm : IntKind.i64.wrap ((k : Int) - 1) = ((k - 1 : Nat) : Int) := by have := W.lo; rw [wrap_id (by omega)]; omega
      have hlo := W.lo
      have hln2 := W.ln
      have lt1 : (x.opt.take (k - 1)).length ≤ 44 := by simp; omega
      have vnn : validS (x.num ++ x.opt.take (k - 1)) = true := validS_app W.vn (validS_tk _ W.vo)
      have tq := TrimRef_spec (x.opt.drop (k + 1)) (by simp; omega)
      have r7 := right_at (x.num ++ x.opt.take (k - 1)) x.opt (k - 1) (by omega) (by rw [List.length_append]; omega)
      have hrf : rightF (x.num ++ x.opt.take (k - 1)) (x.opt.getD (k - 1) 0) = decide (digitS (x.num ++ x.opt.take (k - 1)) = [x.opt.getD (k - 1) 0]) := by unfold rightF; rw [vnn, Bool.true_and]
      rw [hrf] at r7
      have hnF : numF f x = if [x.opt.getD (k - 1) 0] ≠ digitS (x.num ++ x.opt.take (k - 1)) then ([], [], 13) else (x.num ++ x.opt.take (k - 1), trimF (x.opt.drop (k + 1)), 0) := by
        unfold numF
        rw [if_neg h60, hkd, if_neg (by omega)]
      refine wwe ?_
      refine AW_seq ?_
      refine AW_drawG (fun i => bif Nat.beq i 12 || Nat.beq i 14 then [1] else []) (fun i => bif Nat.beq i 12 || Nat.beq i 14 then [1] else []) mixed (by kernel_rfl) ?_
      refine wwg ?_
      rw [hwm, Int.toNat_natCast]
      refine wwg ?_
      rw [hwr2, Int.toNat_natCast]
      refine wwdc tq ?_
      refine wwg ?_
      refine ww ?_
      rw [hwm]
      refine ww ?_
      refine wwc r7 ?_
      refine ww ?_
      refine AW_condL rfl (fun k7 => ?_) (fun k7 => ?_)
      · rw [if_pos (by simp at k7; exact fun h => k7 h.symm)] at hnF
        rw [hnF, if_pos (by simp)] at hcz
        subst hcz
        refine ww ?_
        exact wwr
      rw [if_neg (by simp at k7; simp [k7])] at hnF
      refine wwe ?_
      exact ⟨(x.num ++ x.opt.take (k - 1), trimF (x.opt.drop (k + 1))), hnF, ⟨.refl _, .refl _, .refl _, trivial⟩, HLe.refl _⟩
    · rintro ⟨n', o'⟩ hnf
      simp only at hnf ⊢
      rw [hnf, if_neg (by simp)] at hcz
      have hsp := SplitRef_spec x.names (by have := W.lm; omega)
      have hsl2 := splitR_len x.names
      have hnl := numF_len f x W.ln W.lo
      rw [hnf] at hnl
      have hz : finZ f x = ⟨f, trimF x.kind, trimF x.state, (splitR x.names).1, (splitR x.names).2.1, n', trimF x.nat, x.bir, x.sex, x.exp, o', trimF x.sec⟩ := by unfold finZ; rw [hnf]
      have hvz := ValidZ_spec (finZ f x) (by
        rw [hz]
        have := W.lk
        have e1 := trimF_le x.kind
        have e2 := trimF_le x.state
        have e3 := trimF_le x.nat
        have e4 := trimF_le x.sec
        have e5 := W.lm
        unfold zLen
        simp only at hnl ⊢
        omega)
      rw [hz] at hvz hcz
      generalize splitR x.names = sp at *
      refine ww ?_
      refine wwc hsp ?_
      refine ww ?_
      refine AW_condL rfl (fun k8 => ?_) (fun k8 => ?_)
      · rw [if_pos (by simpa using k8)] at hcz
        subst hcz
        refine ww ?_
        exact wwr
      rw [if_neg (by simpa using k8)] at hcz
      refine ww ?_
      refine wwc hvz ?_
      refine ww ?_
      refine AW_condL rfl (fun k9 => ?_) (fun k9 => ?_)
      · rw [if_pos (by simpa using k9)] at hcz
        subst hcz
        refine ww ?_
        exact wwr
      rw [if_neg (by simpa using k9)] at hcz
      subst hcz
      refine ww ?_
      exact wwr
end Tdoc
/- ref11.Parse for all lines, the reference's OpenZone. -/
set_option linter.unusedVariables false
set_option linter.unusedSimpArgs false
namespace Tdoc
open Go Go.Proofs

set_option maxHeartbeats 8000000 in
set_option maxRecDepth 100000 in
theorem ParseRef_bad (ls : List (List UInt8)) (h0 : shapeF ls = 0) :
    Spec Tryz.prog 144 [.d (.sl 1 (strsD ls))] [] (fun r h' => r = .tup [zAV zon0, .d (.int .i64 2)] ∧ h' = []) := by
  have hfm := Shape_spec ls
  rw [h0] at hfm
  refine Spec_of_body hT Tryz.func144 rfl rfl rfl rfl ?_; intro E hE
  refine ww ?_
  refine wwc hfm ?_
  refine ww ?_
  refine AW_condL rfl (fun c1 => ?_) (fun c1 => ?_)
  · refine ww ?_
    exact wwr
  · exact absurd c1 (by simp)
theorem ParseRef_spec (ls : List (List UInt8)) (hl : ls.length ≤ 1000) : Spec Tryz.prog 144 [.d (.sl 1 (strsD ls))] [] (fun r h' => r = .tup [zAV (parseZ ls).1, .d (.int .i64 (parseZ ls).2)] ∧ h' = []) := by
  by_cases h0 : shapeF ls = 0
  · have hp : parseZ ls = (zon0, 2) := by unfold parseZ; rw [if_pos h0]
    rw [hp]
    exact ParseRef_bad ls h0
  rcases shape_inv h0 with ⟨a, b, c, rfl, ha, hb, hc, hs⟩ | ⟨a, b, rfl, ha, hb, hs⟩ | ⟨a, b, rfl, ha, hb, hs⟩
  · exact ParseRef_walk _ hl a b rfl rfl (getD_le (ls := [a, b, c]) (n := 1000) (by intro s hs; simp at hs; rcases hs with rfl | rfl | rfl <;> omega)) _ rfl h0 (by omega)
  · exact ParseRef_walk _ hl a b rfl rfl (getD_le (ls := [a, b]) (n := 1000) (by intro s hs; simp at hs; rcases hs with rfl | rfl <;> omega)) _ rfl h0 (by omega)
  · exact ParseRef_walk _ hl a b rfl rfl (getD_le (ls := [a, b]) (n := 1000) (by intro s hs; simp at hs; rcases hs with rfl | rfl <;> omega)) _ rfl h0 (by omega)
theorem zoneL_many {l : List Node} (h : l.length ≠ 1) : zoneL l = (zon0, 1) := by
  match l, h with
  | [], _ => rfl
  | [_], h => exact absurd rfl h
  | _ :: _ :: _, _ => rfl
set_option maxHeartbeats 8000000 in
set_option maxRecDepth 100000 in
theorem OpenZoneR_spec (b : List UInt8) (hb : b.length ≤ 9223372036854775807) : Spec Tryz.prog 82 [.d (.sl 1 (encB b))] []
    (fun r h' => r = .tup [zAV (zoneO b).1, .d (.int .i64 (zoneO b).2)] ∧ h' = []) := by
  have ho := openR_spec b (by omega) 1 1
  have hwg := openX_wg b
  unfold zoneO
  by_cases h1 : (openZ b 1 1).2.2 = 0
  case neg =>
    rw [if_pos h1]
    generalize openZ b 1 1 = q at ho h1
    obtain ⟨n, l, e⟩ := q
    simp only at ho h1 ⊢
    refine Spec_of_body hT Tryz.func82 rfl rfl rfl rfl ?_; intro E hE
    refine ww ?_
    refine wwc ho ?_
    refine ww ?_
    refine AW_condL rfl (fun c1 => ?_) (fun c1 => ?_)
    · refine ww ?_
      exact wwr
    · exact absurd (by simpa using c1) h1
  obtain ⟨g1, g2, g3, g4, g5⟩ := openZ_ok h1
  rw [if_neg (by omega)]
  rw [← g3] at hwg
  rw [h1] at ho
  clear g1 g2 g3 g4 g5 h1
  generalize openZ b 1 1 = q at ho hwg
  obtain ⟨n, l, e⟩ := q
  simp only at ho hwg ⊢
  have hlen := encNs_length l
  by_cases h2 : l.length = 1
  case neg =>
    rw [zoneL_many h2]
    have hn : (((encNs l).length : Int) != 1) = true := by rw [hlen]; simp; omega
    refine Spec_of_body hT Tryz.func82 rfl rfl rfl rfl ?_; intro E hE
    refine ww ?_
    refine wwc ho ?_
    refine ww ?_
    refine AW_condL rfl (fun c1 => ?_) (fun c1 => ?_)
    · exact absurd c1 (by simp)
    refine wwk hn ?_
    refine AW_condL rfl (fun c2 => ?_) (fun c2 => ?_)
    · refine ww ?_
      exact wwr
    · rw [hn] at c2
      exact absurd c2 (by simp)
  obtain ⟨t, v, k, rfl⟩ : ∃ t v k, l = [.mk t v k] := match l, h2 with
    | [.mk t v k], _ => ⟨t, v, k, rfl⟩
  have hel : (encNs [.mk t v k])[((0 : Int)).toNat]? = some [.int .i64 t, .sl 1 (encB v), .sl 3 (encNs k)] := rfl
  have hP := PrimF_spec (.mk t v k) 24351 (-1)
  rw [nAV_eq] at hP
  have hn1 : (((encNs [.mk t v k]).length : Int) != 1) = false := rfl
  have hv : v.length ≤ 1000000 := by simp only [wgtL, wgtN] at hwg; omega
  unfold zoneL
  simp only [valN]
  generalize primF (.mk t v k) 24351 (-1) = cv at hP
  generalize hfin : (if cv = true then zoneT v else (zon0, 1)) = fin
  refine Spec_of_body hT Tryz.func82 rfl rfl rfl rfl ?_; intro E hE
  refine ww ?_
  refine wwc ho ?_
  refine ww ?_
  refine AW_condL rfl (fun c1 => ?_) (fun c1 => ?_)
  · exact absurd c1 (by simp)
  refine ww ?_
  refine wwgi hel ?_
  refine ww ?_
  refine wwgc hP ?_
  refine ww ?_
  refine AW_condL rfl (fun c2 => ?_) (fun c2 => ?_)
  · rw [if_neg (by rw [hn1] at c2; simpa using c2)] at hfin
    subst hfin
    refine ww ?_
    exact wwr
  rw [if_pos (by rw [hn1] at c2; simpa using c2)] at hfin
  unfold zoneT at hfin
  refine ww ?_
  refine wwi hel ?_
  refine ww ?_
  refine AWk_step hT rfl rfl (byteCells_encB _) ?_
  rw [bytesOf_encB]
  refine ww ?_
  refine AW_condL rfl (fun d1 => ?_) (fun d1 => ?_)
  · have hl : v.length = 90 := by simp at d1; omega
    rw [if_pos hl] at hfin
    have hp := ParseRef_spec [cutS v 0 30, cutS v 30 60, cutS v 60 90] (by simp)
    rw [hfin] at hp
    refine wwn ?_
    refine AW_drawG (fun i => bif Nat.beq i 10 then [0] else []) (fun i => bif Nat.beq i 10 then [0] else []) mixed (by kernel_rfl) ?_
    refine wwg ?_
    have e1 : v.take ((30 : Int)).toNat = cutS v 0 30 := rfl
    have e2 : cutL v 30 60 = cutS v 30 60 := cutL_cutS v 30 60
    have e3 : v.drop ((60 : Int)).toNat = cutS v 60 90 := (cutS_drop v 60 90 (by omega)).symm
    rw [e1, e2, e3]
    refine AWg_op (os := []) (fun k hk1 hk2 => buildSl_ok hT rfl rfl) rfl ?_
    refine wwg ?_
    refine wwdc hp ?_
    refine wwg ?_
    refine ww ?_
    exact wwr
  have hl1 : ¬ v.length = 90 := by simp at d1; omega
  rw [if_neg hl1] at hfin
  refine ww ?_
  refine AW_condL rfl (fun d2 => ?_) (fun d2 => ?_)
  · have hl : v.length = 72 := by simp at d2; omega
    rw [if_pos hl] at hfin
    have hp := ParseRef_spec [cutS v 0 36, cutS v 36 72] (by simp)
    rw [hfin] at hp
    have hq : IntKind.i64.wrap (Int.tdiv (v.length : Int) 2) = 36 := by rw [hl]; rfl
    refine wwn ?_
    refine AW_condL rfl (fun d3 => ?_) (fun d3 => ?_)
    rotate_left
    · rw [d2] at d3; exact absurd d3 (by simp)
    refine AW_seq ?_
    refine AW_drawG (fun i => bif Nat.beq i 14 then [0] else []) (fun i => bif Nat.beq i 14 then [0] else []) mixed (by kernel_rfl) ?_
    refine wwg ?_
    rw [hq]
    refine wwg ?_
    have e1 : v.take ((36 : Int)).toNat = cutS v 0 36 := rfl
    have e3 : v.drop ((36 : Int)).toNat = cutS v 36 72 := (cutS_drop v 36 72 (by omega)).symm
    rw [e1, e3]
    refine AWg_op (os := []) (fun k hk1 hk2 => buildSl_ok hT rfl rfl) rfl ?_
    refine wwg ?_
    refine wwdc hp ?_
    refine wwg ?_
    refine ww ?_
    exact wwr
  have hl2 : ¬ v.length = 72 := by simp at d2; omega
  rw [if_neg hl2] at hfin
  refine ww ?_
  refine AW_condL rfl (fun d3 => ?_) (fun d3 => ?_)
  · have hl : v.length = 88 := by simp at d3; omega
    rw [if_pos hl] at hfin
    have hp := ParseRef_spec [cutS v 0 44, cutS v 44 88] (by simp)
    rw [hfin] at hp
    have hq : IntKind.i64.wrap (Int.tdiv (v.length : Int) 2) = 44 := by rw [hl]; rfl
    refine wwn ?_
    refine AW_drawG (fun i => bif Nat.beq i 14 then [0] else []) (fun i => bif Nat.beq i 14 then [0] else []) mixed (by kernel_rfl) ?_
    refine wwg ?_
    rw [hq]
    refine wwg ?_
    have e1 : v.take ((44 : Int)).toNat = cutS v 0 44 := rfl
    have e3 : v.drop ((44 : Int)).toNat = cutS v 44 88 := (cutS_drop v 44 88 (by omega)).symm
    rw [e1, e3]
    refine AWg_op (os := []) (fun k hk1 hk2 => buildSl_ok hT rfl rfl) rfl ?_
    refine wwg ?_
    refine wwdc hp ?_
    refine wwg ?_
    refine ww ?_
    exact wwr
  have hl3 : ¬ v.length = 88 := by simp at d3; omega
  rw [if_neg hl3] at hfin
  subst hfin
  refine ww ?_
  exact wwr
end Tdoc
/- The two sides of OpenZone answer alike. -/
set_option linter.unusedVariables false
set_option linter.unusedSimpArgs false
namespace Tdoc
open Go Go.Proofs

theorem zoneP_zoneO (b : List UInt8) : zoneP b = zoneO b := by
  have hz := openZ_eq b 1
  have hwf := openY_wf b 1
  unfold zoneO zoneP
  rw [hz.1, hz.2]
  generalize openY b 1 = q at hwf
  obtain ⟨l, e⟩ := q
  simp only at hwf ⊢
  by_cases h1 : e ≠ 0
  · rw [if_pos h1, if_pos h1]
  rw [if_neg h1, if_neg h1]
  by_cases h2 : l.length = 1
  case neg => rw [zoneL_many h2, primL_many h2]; rfl
  obtain ⟨t', v, k, rfl⟩ : ∃ t v k, l = [.mk t v k] := match l, h2 with
    | [.mk t v k], _ => ⟨t, v, k, rfl⟩
  have hw := hwf _ (List.mem_singleton.mpr rfl)
  have hp := primF_any (t' := t') (t := 24351) (v := v) (k := k) (fun h => hw.prim (by rw [h]; rfl))
  unfold zoneL primL
  simp only [valN]
  by_cases h4 : t' = 24351
  · rw [if_pos (hp.mpr h4), if_pos h4]; rfl
  · rw [if_neg (fun h => h4 (hp.mp h)), if_neg h4]; rfl
end Tdoc
/- Plain: details that were read can be written. -/
set_option linter.unusedVariables false
set_option linter.unusedSimpArgs false
namespace Tdoc
open Go

theorem belongs_tag {n t : Int} (h : belongsF n t = true) : tagOk t = true ∧ tagCons t = false := by
  have ht : t = 24334 ∨ t = 24336 ∨ t = 24337 ∨ t = 24338 ∨ t = 24339 ∨ t = 24340 ∨ t = 24341 ∨ t = 24386 ∨ t = 24345 ∨ t = 24358 ∨ t = 24347 ∨ t = 24405 := by
    unfold belongsF at h
    split at h
    · simp at h; omega
    · simp at h; omega
  rcases ht with rfl | rfl | rfl | rfl | rfl | rfl | rfl | rfl | rfl | rfl | rfl | rfl <;> exact ⟨by decide, by decide⟩
theorem detL_all (n : Int) : ∀ (l seen : List Det), detL n seen l = 0 → ∀ x, x ∈ l → belongsF n x.tag = true ∧ x.text.length ≤ 99
  | [], _, _, x, hx => by cases hx
  | y :: l, seen, h, x, hx => by
    rw [detL] at h
    by_cases h1 : belongsF n y.tag = false
    · rw [if_pos h1] at h; cases h
    rw [if_neg h1] at h
    by_cases h2 : (seen.any fun z => decide (z.tag = y.tag)) = true
    · rw [if_pos h2] at h; cases h
    rw [if_neg h2] at h
    by_cases h3 : y.text.length < 1 ∨ y.text.length > 99
    · rw [if_pos h3] at h; cases h
    rw [if_neg h3] at h
    cases hx with
    | head => exact ⟨by simpa using h1, by omega⟩
    | tail _ hx => exact detL_all n l _ h x hx
theorem chkL_kids (d : Nat) (hd : d ≤ 8) : ∀ (l : List Det) (c : Nat), (∀ x, x ∈ l → tagOk x.tag = true ∧ tagCons x.tag = false) → chkL d (kidsD l) c = (0, c + l.length)
  | [], c, _ => rfl
  | x :: l, c, h => by
    obtain ⟨h1, h2⟩ := h x List.mem_cons_self
    have hx : chkN d (.mk x.tag x.text []) c = (0, c + 1) := by
      rw [chkN, if_neg (by rw [h1]; simp), if_neg (by rw [h2]; simp), if_neg (by omega)]
      rfl
    show chkL d (.mk x.tag x.text [] :: kidsD l) c = _
    rw [chkL, hx, if_pos rfl, chkL_kids d hd l (c + 1) (fun y hy => h y (List.mem_cons_of_mem _ hy)), List.length_cons]
    congr 1; omega
theorem wrL_kids : ∀ (l : List Det), (∀ x, x ∈ l → x.text.length ≤ 99) → (wrL (kidsD l)).length ≤ 110 * l.length
  | [], _ => by simp [kidsD, wrL]
  | x :: l, h => by
    have h1 := h x List.mem_cons_self
    have h2 := wrL_kids l fun y hy => h y (List.mem_cons_of_mem _ hy)
    have h3 := wrL_cons_length x.tag x.text [] (kidsD l)
    have h4 : (wrL ([] : List Node)).length = 0 := rfl
    show (wrL (.mk x.tag x.text [] :: kidsD l)).length ≤ _
    simp only [List.length_cons]
    omega
theorem detF_chk (n : Int) (hn : n = 11 ∨ n = 12) (l : List Det) : (detF n l).2 = chkDs n l := by
  unfold detF chkDs
  rw [if_neg (by omega)]
  by_cases h1 : l.length > 16
  · rw [if_pos h1, if_pos h1]
  rw [if_neg h1, if_neg h1]
  by_cases h2 : detL n [] l ≠ 0
  · rw [if_pos h2]
  rw [if_neg h2]
  have h2' : detL n [] l = 0 := by simpa using h2
  rw [h2']
  have hall := detL_all n l [] h2'
  have hk := fun (d : Nat) (hd : d ≤ 8) (c : Nat) => chkL_kids d hd l c (fun x hx => belongs_tag (hall x hx).1)
  have hw := wrL_kids l (fun x hx => (hall x hx).2)
  have hl2 := listD_length l
  have hch : ∀ t : Int, tagOk t = true → tagCons t = true → (encodeP [.mk t [] (.mk 92 (listD l) [] :: kidsD l)]).2 = 0 := by
    intro t ht hc
    have e1 : chkN 2 (.mk 92 (listD l) []) 1 = (0, 2) := by
      have hc92 : tagCons 92 = false := by decide
      rw [chkN, if_neg (by decide), if_neg (by simp [hc92]), if_neg (by omega)]; rfl
    have e2 : chkL 2 (.mk 92 (listD l) [] :: kidsD l) 1 = (0, 2 + l.length) := by
      rw [chkL, e1, if_pos rfl, hk 2 (by omega)]
    have e3 : chkL 1 [.mk t [] (.mk 92 (listD l) [] :: kidsD l)] 0 = (0, 2 + l.length) := by
      have e4 : chkN 1 (.mk t [] (.mk 92 (listD l) [] :: kidsD l)) 0 = (0, 2 + l.length) := by
        rw [chkN, if_neg (by rw [ht]; simp), if_neg (by rw [hc]; simp), if_neg (by omega)]
        exact e2
      rw [chkL, e4, if_pos rfl]; rfl
    have w1 := wrL_cons_length t [] (.mk 92 (listD l) [] :: kidsD l) []
    have w2 := wrL_cons_length 92 (listD l) [] (kidsD l)
    have w4 : (wrL ([] : List Node)).length = 0 := rfl
    simp only [List.length_nil] at w1
    unfold encodeP
    rw [e3, if_neg (by simp), if_neg (by simp only; omega), if_neg (by omega)]
  unfold wrapG
  rcases hn with rfl | rfl
  · rw [if_neg (by decide)]
    exact hch _ (by decide) (by decide)
  · rw [if_neg (by decide)]
    exact hch _ (by decide) (by decide)
/-! what the list of objects says -/
def tagsB (r : List Node) : List UInt8 := (r.map fun x => [bOf (tagN x / 256), bOf (tagN x)]).flatten
def detsN (r : List Node) : List Det := r.map fun x => ⟨tagN x, valN x⟩
theorem nb_two {hi lo : UInt8} {t : Int} (ht : 0 ≤ t ∧ t < 65536) : ((nbN [hi, lo] : Nat) : Int) = t ↔ bOf (t / 256) = hi ∧ bOf t = lo := by
  have h1 := UInt8.toNat_lt hi
  have h2 := UInt8.toNat_lt lo
  have e : nbN [hi, lo] = 256 * hi.toNat + lo.toNat := by simp [nbN]
  rw [e]
  have ek : ∀ (a : Int) (c : UInt8), bOf a = c ↔ a % 256 = (c.toNat : Int) := fun a c => by
    unfold bOf
    constructor
    · intro h
      rw [← h]
      simp
      omega
    · intro h
      apply UInt8.toNat_inj.1
      simp
      omega
  rw [ek, ek]
  omega
theorem detG_eq : ∀ (r : List Node) (v : List UInt8), (∀ x, x ∈ r → (0 ≤ tagN x ∧ tagN x < 65536) ∧ (tagCons (tagN x) = false → kidN x = [])) →
    detG v r = if (r.all fun x => !tagCons (tagN x)) = true ∧ tagsB r = v then some (detsN r) else none
  | [], [], _ => by simp [detG, tagsB, detsN]
  | [], c :: t, _ => by
    rw [if_neg (by simp [tagsB])]
    cases t <;> rfl
  | x :: r, v, h => by
    obtain ⟨h1, h2⟩ := h x List.mem_cons_self
    have ih := fun v => detG_eq r v fun y hy => h y (List.mem_cons_of_mem _ hy)
    have htb : tagsB (x :: r) = bOf (tagN x / 256) :: bOf (tagN x) :: tagsB r := rfl
    have hdd : detsN (x :: r) = ⟨tagN x, valN x⟩ :: detsN r := rfl
    rw [htb, hdd]
    match v with
    | [] => rw [if_neg (by simp)]; rfl
    | [_] => rw [if_neg (by simp)]; rfl
    | hi :: lo :: v =>
      rw [detG]
      by_cases hb : bOf (tagN x / 256) = hi ∧ bOf (tagN x) = lo
      · have hn := (nb_two (hi := hi) (lo := lo) h1).2 hb
        rw [hn, ih v]
        cases hc : tagCons (tagN x)
        · have hpr : primF x (tagN x) (-1) = true := primF_iff.2 ⟨rfl, h2 hc, .inl (by omega)⟩
          rw [if_neg (by rw [hpr]; simp), hb.1, hb.2]
          simp only [List.all_cons, hc, Bool.not_false, Bool.true_and, List.cons.injEq, true_and]
          split <;> rfl
        · rw [if_pos (.inl rfl), if_neg (by simp [hc])]
      · have hn : ((nbN [hi, lo] : Nat) : Int) ≠ tagN x := fun h => hb ((nb_two h1).1 h)
        have hpr : primF x ((nbN [hi, lo] : Nat) : Int) (-1) = false := by
          cases hp : primF x ((nbN [hi, lo] : Nat) : Int) (-1)
          · rfl
          · exact absurd (primF_iff.1 hp).1.symm hn
        rw [if_pos (.inr hpr), if_neg (fun h => hb (by simp only [List.cons.injEq] at h; exact ⟨h.2.1, h.2.2.1⟩))]
end Tdoc
/- datagroups.OpenDetails. -/
set_option linter.unusedVariables false
set_option linter.unusedSimpArgs false
namespace Tdoc
open Go Go.Proofs

theorem tagsB_append (a b : List Node) : tagsB (a ++ b) = tagsB a ++ tagsB b := by simp [tagsB]
theorem detsN_append (a b : List Node) : detsN (a ++ b) = detsN a ++ detsN b := by simp [detsN]
theorem tagsB_len : ∀ (r : List Node), (tagsB r).length = 2 * r.length
  | [] => rfl
  | x :: r => by
    have ih := tagsB_len r
    show (bOf (tagN x / 256) :: bOf (tagN x) :: tagsB r).length = _
    simp only [List.length_cons, ih]; omega
theorem tag_range {d : Nat} {x : Node} (h : WfN d x) : 0 < tagN x ∧ tagN x < 65536 := by
  obtain ⟨t, v, k⟩ := x
  exact tagOk_range (chkN_inv h).1
def detB2 (n : Int) (l : List Node) : Int × List Det × Int := match l with
  | [] => (0, [], 1)
  | x :: r => if tagN x ≠ 92 then (0, [], 1) else if (r.all fun y => !tagCons (tagN y)) = false then (0, [], 1) else if tagsB r ≠ valN x then (0, [], 1)
    else if chkDs n (detsN r) ≠ 0 then (0, [], chkDs n (detsN r)) else (n, detsN r, 0)
def detP (b : List UInt8) : Int × List Det × Int :=
  if (openX b).2.2 ≠ 0 then (0, [], (openX b).2.2) else if ¬ ((openX b).1 = 11 ∨ (openX b).1 = 12) then (0, [], 4) else detB2 (openX b).1 (openX b).2.1
set_option maxHeartbeats 8000000 in
set_option maxRecDepth 100000 in
theorem OpenDet_spec (b : List UInt8) (hb : b.length ≤ 9223372036854775807) : Spec Tryz.prog 40 [.d (.sl 1 (encB b))] []
    (fun r h' => r = .tup [.d (.int .i64 (detP b).1), .d (.sl 2 (encDs (detP b).2.1)), .d (.int .i64 (detP b).2.2)] ∧ h' = []) := by
  have ho := Open_spec b (by omega)
  have hwg := openX_wg b
  have hwf : ∀ x, x ∈ (openX b).2.1 → -9223372036854775808 ≤ tagN x ∧ tagN x ≤ 9223372036854775807 := fun x hx => by
    have := tag_range (openX_wf b x hx)
    omega
  unfold detP
  generalize openX b = q at ho hwg hwf
  obtain ⟨n, l, e⟩ := q
  simp only at ho hwg hwf ⊢
  by_cases h1 : e = 0
  case neg =>
    have hn : (e == 0) = false := by simpa using h1
    rw [if_pos h1]
    refine Spec_of_body hT Tryz.func40 rfl rfl rfl rfl ?_; intro E hE
    refine ww ?_
    refine wwc ho ?_
    refine wwk hn ?_
    refine AW_condL rfl (fun c1 => ?_) (fun c1 => ?_)
    · exact absurd c1 (by rw [hn]; simp)
    refine ww ?_
    refine AW_condL rfl (fun c2 => ?_) (fun c2 => ?_)
    · refine ww ?_
      exact wwr
    · exact absurd (by simpa using c2) h1
  subst h1
  rw [if_neg (by omega)]
  by_cases h2 : n = 11 ∨ n = 12
  case neg =>
    have hnb := detailed_none n h2
    rw [if_pos h2]
    refine Spec_of_body hT Tryz.func40 rfl rfl rfl rfl ?_; intro E hE
    refine ww ?_
    refine wwc ho ?_
    refine ww ?_
    refine wwgc hnb ?_
    refine ww ?_
    refine AWk_gop rfl rfl rfl (fun hg => ⟨(sg (C := True) hg).1, OpS_of_pure (sliceNil_ok rfl rfl Tryz.underlying22 rfl)⟩) ?_
    refine ww ?_
    refine AW_condL rfl (fun c1 => ?_) (fun c1 => ?_)
    · refine ww ?_
      refine AW_condL rfl (fun c2 => ?_) (fun c2 => ?_)
      · refine ww ?_
        exact wwr
      · exact absurd c2 (by simp)
    · exact absurd c1 (by simp)
  rw [if_neg (by omega)]
  have hdt := detailed_spec n h2
  obtain ⟨d0, dl, hde⟩ : ∃ d0 dl, encI (deT n) = d0 :: dl := by rcases h2 with rfl | rfl <;> exact ⟨_, _, rfl⟩
  rw [hde] at hdt
  have hlen := encNs_length l
  generalize hfin : detB2 n l = fin
  refine Spec_of_body hT Tryz.func40 rfl rfl rfl rfl ?_; intro E hE
  refine ww ?_
  refine wwc ho ?_
  refine ww ?_
  refine wwgc hdt ?_
  refine ww ?_
  refine AWk_gop rfl rfl rfl (fun hg => ⟨(sg (C := True) hg).1, OpS_of_pure (sliceNil_ok rfl rfl Tryz.underlying22 rfl)⟩) ?_
  refine ww ?_
  refine AW_condL rfl (fun c1 => ?_) (fun c1 => ?_)
  · exact absurd c1 (by simp)
  refine ww ?_
  refine AW_condL rfl (fun c2 => ?_) (fun c2 => ?_)
  · exact absurd c2 (by simp)
  match l, hfin with
  | [], hfin =>
    have hn : (((encNs []).length : Int) == 0) = true := rfl
    have hfin' : ((0, [], 1) : Int × List Det × Int) = fin := hfin
    subst hfin'
    refine wwk hn ?_
    refine AW_condL rfl (fun c3 => ?_) (fun c3 => ?_)
    · refine ww ?_
      exact wwr
    · exact absurd c3 (by rw [hn]; simp)
  | .mk t0 v0 k0 :: r, hfin =>
    have hel : (encNs (.mk t0 v0 k0 :: r))[((0 : Int)).toNat]? = some [.int .i64 t0, .sl 1 (encB v0), .sl 3 (encNs k0)] := rfl
    have hn1 : (((encNs (.mk t0 v0 k0 :: r)).length : Int) == 0) = false := by rw [hlen]; simp; omega
    have hdr : cutL (encNs (.mk t0 v0 k0 :: r)) 1 ((encNs (.mk t0 v0 k0 :: r)).length : Int) = encNs r := by
      unfold cutL
      rw [List.take_of_length_le (by simp)]
      rfl
    have hl1 : 1 ≤ (encNs (.mk t0 v0 k0 :: r)).length := by rw [hlen]; simp
    have hlr := encNs_length r
    have hwr : wgtL r ≤ 45056 := by simp only [wgtL] at hwg; omega
    have hrl : r.length ≤ wgtL r := len_wgt r
    replace hfin : (if t0 ≠ 92 then ((0, [], 1) : Int × List Det × Int) else if (r.all fun y => !tagCons (tagN y)) = false then (0, [], 1) else if tagsB r ≠ v0 then (0, [], 1) else if chkDs n (detsN r) ≠ 0 then (0, [], chkDs n (detsN r)) else (n, detsN r, 0)) = fin := hfin
    refine ww ?_
    refine wwgi hel ?_
    refine ww ?_
    refine AW_condL rfl (fun c3 => ?_) (fun c3 => ?_)
    · have c3' : t0 ≠ 92 := by rw [hn1] at c3; simpa using c3
      rw [if_pos c3'] at hfin
      subst hfin
      refine ww ?_
      exact wwr
    have c3' : ¬ t0 ≠ 92 := by rw [hn1] at c3; simpa using c3
    rw [if_neg c3'] at hfin
    refine ww ?_
    have hd1 : (encNs (.mk t0 v0 k0 :: r)).drop ((1 : Int)).toNat = encNs r := rfl
    rw [hd1]
    refine AW_acquire 6 1 (.inr ⟨rfl, rfl⟩) ?_
    refine AW_acquire 3 2 (.inr ⟨rfl, rfl⟩) ?_
    refine AW_loopC (ι := Nat) (fun i => [(2, .d (.int .i64 n)), (5, .d (.sl 3 (encNs (.mk t0 v0 k0 :: r)))), (37, .d (.sl 3 (encNs r))), (38, .d (.int .i64 (r.length : Int))), (39, .d (.int .i64 (i : Int))), (6, .sl 1 (encB (tagsB (r.take i))) (.right 0)), (3, .sl 2 (encDs (detsN (r.take i))) (.right 1))])
      (fun i => [.right 1 (encB (tagsB (r.take i))).length, .right 2 (encDs (detsN (r.take i))).length])
      (fun i => i ≤ r.length ∧ (r.drop i).all (fun y => !tagCons (tagN y)) = r.all fun y => !tagCons (tagN y)) (fun i => r.length - i) 0 ⟨by omega, by simp⟩ ⟨.refl _, .refl _, .refl _, .int (by rw [hlr]), .refl _, .refl _, .refl _, trivial⟩ (HLe.refl _) ?_
    rintro i ⟨hi, hg⟩
    have hwi : IntKind.i64.wrap ((i : Int) + 1) = ((i + 1 : Nat) : Int) := by rw [wrap_id (by omega)]; simp
    have hbl : (encB (tagsB (r.take i))).length ≤ 2000000 := by rw [encB_length, tagsB_len, List.length_take]; omega
    have hdl : (encDs (detsN (r.take i))).length ≤ 1000000 := by rw [encDs_length]; simp [detsN]; omega
    have hdl2 : (encDs (detsN r)).length ≤ 1000000 := by rw [encDs_length]; simp [detsN]; omega
    refine ww ?_
    refine AW_condL rfl (fun c4 => ?_) (fun c4 => ?_)
    · have c4' : i < r.length := by simpa using c4
      have helx : (encNs r)[((i : Int)).toNat]? = some (encN r[i]) := by rw [Int.toNat_natCast]; simp [encNs_eq, c4']
      have htk1 : r.take (i + 1) = r.take i ++ [r[i]] := List.take_succ_eq_append_getElem c4'
      have hdr2 : r.drop i = r[i] :: r.drop (i + 1) := List.drop_eq_getElem_cons c4'
      have ht1 : encB (tagsB (r.take (i + 1))) = encB (tagsB (r.take i)) ++ [[.int .u8 (IntKind.u8.wrap (Int.fdiv (tagN r[i]) (2 ^ (min (8 : Int).toNat IntKind.i64.bits))))], [.int .u8 (IntKind.u8.wrap (tagN r[i]))]] := by rw [htk1, tagsB_append, encB_append, bOf_hi, bOf_wrap]; rfl
      have ht2 : encDs (detsN (r.take (i + 1))) = encDs (detsN (r.take i)) ++ [[.int .i64 (tagN r[i]), .str (valN r[i])]] := by rw [htk1, detsN_append, encDs_append]; rfl
      rw [hdr2, List.all_cons] at hg
      have hrng := hwf r[i] (List.mem_cons_of_mem _ (List.getElem_mem c4'))
      generalize r[i] = y at helx ht1 ht2 hg hrng
      obtain ⟨t, v, k⟩ := y
      rw [encN] at helx
      simp only [tagN, valN] at ht1 ht2 hrng
      replace hg : (!tagCons t && (r.drop (i + 1)).all fun y => !tagCons (tagN y)) = r.all fun y => !tagCons (tagN y) := hg
      have hcs := Constructed_spec t hrng
      refine ww ?_
      refine wwi helx ?_
      refine ww ?_
      refine wwc hcs ?_
      refine ww ?_
      refine AW_condL rfl (fun c5 => ?_) (fun c5 => ?_)
      · have hc : tagCons t = true := by simpa using c5
        rw [hc, Bool.not_true, Bool.false_and] at hg
        rw [← hg, if_pos rfl] at hfin
        subst hfin
        refine ww ?_
        exact wwr
      have c5' : tagCons t = false := by simpa using c5
      rw [c5', Bool.not_false, Bool.true_and] at hg
      refine ww ?_
      refine AWk_op (append_rightL (i := 0) hT rfl rfl rfl rfl rfl rfl (by show ((encB (tagsB (r.take i))).length + 2) * (1 + 1) ≤ _; first | omega | (simp only [encB_length, encNs_length, List.length_append, List.length_cons, List.length_nil]; omega))) rfl ?_
      refine ww ?_
      refine AWk_step hT rfl rfl (byteCells_encB v) ?_
      rw [bytesOf_encB]
      refine ww ?_
      refine AWk_op (append_rightL (i := 1) hT rfl rfl rfl rfl rfl rfl (by show ((encDs (detsN (r.take i))).length + 1) * (24 + 1) ≤ _; first | omega | (simp only [encB_length, encNs_length, List.length_append, List.length_cons, List.length_nil]; omega))) rfl ?_
      refine ww ?_
      exact ⟨i + 1, [_], ⟨c4', hg⟩, by omega, ⟨.refl _, .refl _, .refl _, .refl _, .int hwi, .slt ht1.symm, .slt ht2.symm, trivial⟩, ⟨⟨rfl, by rw [ht1]⟩, ⟨rfl, by rw [ht2]⟩, ObLe.refl _, trivial⟩, Env.below_mono hE (by simp), rfl, rfl⟩
    have c4' : i = r.length := by simp at c4; omega
    subst c4'
    rw [List.drop_length, List.all_nil] at hg
    rw [← hg, if_neg (by simp)] at hfin
    rw [List.take_length]
    have hck := checkD_spec n h2 (detsN r) (by rw [← encDs_length]; exact hdl2)
    have heq := EqualB_spec (tagsB r) v0
    refine wwe ?_
    refine AW_cut (l := [(2, .d (.int .i64 n)), (3, .d (.sl 2 (encDs (detsN r)))), (5, .d (.sl 3 (encNs (.mk t0 v0 k0 :: r)))), (6, .d (.sl 1 (encB (tagsB r))))]) [] [.dead, .dead] (Env.below_mono hE (by simp)) ⟨.refl _, AV.le.dat, .refl _, AV.le.dat, trivial⟩ rfl ⟨trivial, trivial, trivial⟩ rfl ?_
    refine ww ?_
    refine wwi hel ?_
    refine ww ?_
    refine wwc heq ?_
    refine ww ?_
    refine AW_condL rfl (fun c6 => ?_) (fun c6 => ?_)
    · have c6' : tagsB r ≠ v0 := by simpa using c6
      rw [if_pos c6'] at hfin
      subst hfin
      refine ww ?_
      exact wwr
    have c6' : ¬ tagsB r ≠ v0 := by simpa using c6
    rw [if_neg c6'] at hfin
    refine ww ?_
    refine wwc hck ?_
    refine ww ?_
    refine AW_condL rfl (fun c7 => ?_) (fun c7 => ?_)
    · have c7' : chkDs n (detsN r) ≠ 0 := by simpa using c7
      rw [if_pos c7'] at hfin
      subst hfin
      refine ww ?_
      exact wwr
    have c7' : ¬ chkDs n (detsN r) ≠ 0 := by simpa using c7
    rw [if_neg c7'] at hfin
    subst hfin
    refine ww ?_
    exact wwr
end Tdoc
/- The two sides of OpenDetails answer alike. -/
set_option linter.unusedVariables false
set_option linter.unusedSimpArgs false
namespace Tdoc
open Go Go.Proofs

theorem kid_nil {d : Nat} {x : Node} (h : WfN d x) (hc : tagCons (tagN x) = false) : kidN x = [] := by
  obtain ⟨t, v, k⟩ := x
  exact h.prim hc
theorem detB_eq (n : Int) (hn : n = 11 ∨ n = 12) (l : List Node) (hwf : ∀ x, x ∈ l → WfN 2 x) : detB2 n l = detB n l := by
  unfold detB2 detB
  match l, hwf with
  | [], _ => rfl
  | x :: r, hwf =>
    have hx := hwf x List.mem_cons_self
    have hr : ∀ y, y ∈ r → (0 ≤ tagN y ∧ tagN y < 65536) ∧ (tagCons (tagN y) = false → kidN y = []) := fun y hy => by
      have hy' := hwf y (List.mem_cons_of_mem _ hy)
      have := tag_range hy'
      exact ⟨by omega, kid_nil hy'⟩
    simp only
    by_cases h1 : tagN x = 92
    · have hk : kidN x = [] := kid_nil hx (by rw [h1]; decide)
      have h1' : ¬ tagN x ≠ 92 := fun h => h h1
      rw [if_neg h1']
      by_cases hl : ((valN x).length : Int) = 2 * (r.length : Int)
      · have hp : primF x 92 (2 * (r.length : Int)) = true := primF_iff.2 ⟨h1, hk, .inr hl⟩
        rw [if_pos hp]
        unfold contD
        rw [detG_eq r (valN x) hr]
        by_cases ha : (r.all fun y => !tagCons (tagN y)) = false
        · have hn2 : ¬ ((r.all fun y => !tagCons (tagN y)) = true ∧ tagsB r = valN x) := by rw [ha]; simp
          rw [if_pos ha, if_neg hn2]
        · have ha' : (r.all fun y => !tagCons (tagN y)) = true := by simpa using ha
          rw [if_neg ha]
          by_cases ht : tagsB r = valN x
          · have ht' : ¬ tagsB r ≠ valN x := fun h => h ht
            have hq : (r.all fun y => !tagCons (tagN y)) = true ∧ tagsB r = valN x := ⟨ha', ht⟩
            rw [if_neg ht', if_pos hq]
            show _ = finD n ([] ++ detsN r)
            rw [List.nil_append]
            unfold finD
            rw [detF_chk n hn]
          · have hq : ¬ ((r.all fun y => !tagCons (tagN y)) = true ∧ tagsB r = valN x) := fun h => ht h.2
            have ht' : tagsB r ≠ valN x := ht
            rw [if_pos ht', if_neg hq]
      · have hp : ¬ primF x 92 (2 * (r.length : Int)) = true := fun h => hl (by
          rcases (primF_iff.1 h).2.2 with h2 | h2
          · omega
          · exact h2)
        rw [if_neg hp]
        by_cases ha : (r.all fun y => !tagCons (tagN y)) = false
        · rw [if_pos ha]
        · have ht : tagsB r ≠ valN x := fun ht => hl (by rw [← ht, tagsB_len]; simp)
          rw [if_neg ha, if_pos ht]
    · have h1' : tagN x ≠ 92 := h1
      have hp : ¬ primF x 92 (2 * (r.length : Int)) = true := fun h => h1 (primF_iff.1 h).1
      rw [if_pos h1', if_neg hp]
theorem detP_detO (b : List UInt8) : detP b = detO b := by
  have hwf := openX_wf b
  unfold detP detO openZ
  generalize openX b = q at hwf
  obtain ⟨n, l, e⟩ := q
  simp only at hwf ⊢
  by_cases h1 : e ≠ 0
  · rw [if_pos h1, if_pos h1, if_pos h1]
  rw [if_neg h1, if_neg h1]
  by_cases h2 : n = 11 ∨ n = 12
  · have a1 : ¬ ¬ (n = 11 ∨ n = 12) := fun h => h h2
    have a2 : ¬ (n < 11 ∨ n > 12) := by omega
    rw [if_neg a1, if_neg a2]
    exact detB_eq n h2 l hwf
  · have a2 : n < 11 ∨ n > 12 := by omega
    rw [if_pos h2, if_pos a2]
    rfl
end Tdoc
/- The reference's comparisons of equal lists. -/
set_option linter.unusedVariables false
set_option linter.unusedSimpArgs false
namespace Tdoc
open Go Go.Proofs

theorem encI_get {l : List Int} {i : Nat} (h : i < l.length) : (encI l)[((i : Int)).toNat]? = some [.int .i64 l[i]] := by simp [encI, h]
set_option maxHeartbeats 8000000 in
set_option maxRecDepth 100000 in
theorem SameInts_self (l : List Int) (hl : l.length ≤ 1000000) : Spec Tryz.prog 81 [.d (.sl 1 (encI l)), .d (.sl 1 (encI l))] [] (fun r h' => r = .d (.bool true) ∧ h' = []) := by
  have hll : (encI l).length = l.length := by simp [encI]
  refine Spec_of_body hT Tryz.func81 rfl rfl rfl rfl ?_; intro E hE
  refine ww ?_
  refine AW_condL rfl (fun c1 => ?_) (fun c1 => ?_)
  · exact absurd c1 (by simp)
  refine ww ?_
  refine AW_loopL (ι := Nat) (fun i => [(0, .d (.sl 1 (encI l))), (1, .d (.sl 1 (encI l))), (5, .d (.int .i64 (i : Int)))]) (fun _ => []) (fun i => i ≤ l.length) (fun i => l.length - i) 0 (by omega) ⟨.refl _, .refl _, .refl _, trivial⟩ (HLe.refl _) ?_
  intro i hi
  have hwr : IntKind.i64.wrap ((i : Int) + 1) = ((i + 1 : Nat) : Int) := by rw [wrap_id (by omega)]; simp
  refine ww ?_
  refine AW_condL rfl (fun c2 => ?_) (fun c2 => ?_)
  · have c2' : i < l.length := by rw [hll] at c2; simpa using c2
    have hel := encI_get c2'
    generalize l[i] = x at hel
    refine ww ?_
    refine AWd_op (OpS_of_pure (indexAddr_ok hT rfl rfl rfl rfl (by omega) hel)) rfl rfl ?_
    refine ww ?_
    refine AWd_op (OpS_of_pure (indexAddr_ok hT rfl rfl rfl rfl (by omega) hel)) rfl rfl ?_
    refine ww ?_
    refine AW_condL rfl (fun c3 => ?_) (fun c3 => ?_)
    · exact absurd c3 (by simp)
    refine ww ?_
    exact ⟨i + 1, c2', by omega, ⟨.refl _, .refl _, .int hwr, trivial⟩, HLe.refl _⟩
  refine ww ?_
  exact wwr
set_option maxHeartbeats 8000000 in
set_option maxRecDepth 100000 in
theorem SameDet_self (l : List Det) (hl : l.length ≤ 1000000) : Spec Tryz.prog 48 [.d (.sl 2 (encDs l)), .d (.sl 2 (encDs l))] [] (fun r h' => r = .d (.bool true) ∧ h' = []) := by
  have hll := encDs_length l
  refine Spec_of_body hT Tryz.func48 rfl rfl rfl rfl ?_; intro E hE
  refine ww ?_
  refine AW_condL rfl (fun c1 => ?_) (fun c1 => ?_)
  · exact absurd c1 (by simp)
  refine ww ?_
  refine AW_loopL (ι := Nat) (fun i => [(0, .d (.sl 2 (encDs l))), (1, .d (.sl 2 (encDs l))), (5, .d (.int .i64 (i : Int)))]) (fun _ => []) (fun i => i ≤ l.length) (fun i => l.length - i) 0 (by omega) ⟨.refl _, .refl _, .refl _, trivial⟩ (HLe.refl _) ?_
  intro i hi
  have hwr : IntKind.i64.wrap ((i : Int) + 1) = ((i + 1 : Nat) : Int) := by rw [wrap_id (by omega)]; simp
  refine ww ?_
  refine AW_condL rfl (fun c2 => ?_) (fun c2 => ?_)
  · have c2' : i < l.length := by rw [hll] at c2; simpa using c2
    have hel := encDs_at c2'
    generalize l[i] = x at hel
    obtain ⟨t, s⟩ := x
    unfold encD at hel
    simp only at hel
    refine ww ?_
    refine AWd_op (OpS_of_pure (indexAddr_ok hT rfl rfl rfl rfl (by omega) hel)) rfl rfl ?_
    refine ww ?_
    refine AWd_op (OpS_of_pure (indexAddr_ok hT rfl rfl rfl rfl (by omega) hel)) rfl rfl ?_
    refine ww ?_
    refine AWd_op (OpS_of_pure (structNe_ok (ds := [.int .i64 t, .str s]) (es := [.int .i64 t, .str s]) (ks := [some .i64, none]) rfl (by kernel_rfl) (by kernel_rfl) (by kernel_rfl) (by kernel_rfl) rfl rfl rfl rfl)) rfl rfl ?_
    refine ww ?_
    refine AW_condL rfl (fun c3 => ?_) (fun c3 => ?_)
    · exact absurd c3 (by simp [sameL, sameD])
    refine ww ?_
    exact ⟨i + 1, c2', by omega, ⟨.refl _, .refl _, .int hwr, trivial⟩, HLe.refl _⟩
  refine ww ?_
  exact wwr
set_option maxHeartbeats 8000000 in
set_option maxRecDepth 100000 in
theorem SameInf_self (l : List Inf) (hl : l.length ≤ 1000000) : Spec Tryz.prog 49 [.d (.sl 5 (encFs l)), .d (.sl 5 (encFs l))] [] (fun r h' => r = .d (.bool true) ∧ h' = []) := by
  have hll := encFs_length l
  refine Spec_of_body hT Tryz.func49 rfl rfl rfl rfl ?_; intro E hE
  refine ww ?_
  refine AW_condL rfl (fun c1 => ?_) (fun c1 => ?_)
  · exact absurd c1 (by simp)
  refine ww ?_
  refine AW_loopL (ι := Nat) (fun i => [(0, .d (.sl 5 (encFs l))), (1, .d (.sl 5 (encFs l))), (5, .d (.int .i64 (i : Int)))]) (fun _ => []) (fun i => i ≤ l.length) (fun i => l.length - i) 0 (by omega) ⟨.refl _, .refl _, .refl _, trivial⟩ (HLe.refl _) ?_
  intro i hi
  have hwr : IntKind.i64.wrap ((i : Int) + 1) = ((i + 1 : Nat) : Int) := by rw [wrap_id (by omega)]; simp
  refine ww ?_
  refine AW_condL rfl (fun c2 => ?_) (fun c2 => ?_)
  · have c2' : i < l.length := by rw [hll] at c2; simpa using c2
    have hel := encFs_at c2'
    generalize l[i] = x at hel
    obtain ⟨a, b, c, d, e⟩ := x
    unfold encF at hel
    simp only at hel
    refine ww ?_
    refine AWd_op (OpS_of_pure (indexAddr_ok hT rfl rfl rfl rfl (by omega) hel)) rfl rfl ?_
    refine ww ?_
    refine AWd_op (OpS_of_pure (indexAddr_ok hT rfl rfl rfl rfl (by omega) hel)) rfl rfl ?_
    refine ww ?_
    refine AWd_op (OpS_of_pure (structNe_ok (ds := [.int .i64 a, .int .i64 b, .int .i64 c, .int .i64 d, .int .i64 e]) (es := [.int .i64 a, .int .i64 b, .int .i64 c, .int .i64 d, .int .i64 e]) (ks := [some .i64, some .i64, some .i64, some .i64, some .i64]) rfl (by kernel_rfl) (by kernel_rfl) (by kernel_rfl) (by kernel_rfl) rfl rfl rfl rfl)) rfl rfl ?_
    refine ww ?_
    refine AW_condL rfl (fun c3 => ?_) (fun c3 => ?_)
    · exact absurd c3 (by simp [sameL, sameD])
    refine ww ?_
    exact ⟨i + 1, c2', by omega, ⟨.refl _, .refl _, .int hwr, trivial⟩, HLe.refl _⟩
  refine ww ?_
  exact wwr
end Tdoc
/- The reference's comparison of objects, of equal ones. -/
set_option linter.unusedVariables false
set_option linter.unusedSimpArgs false
namespace Tdoc
open Go Go.Proofs

set_option maxHeartbeats 8000000 in
set_option maxRecDepth 100000 in
theorem SameNodes_spec : ∀ (N : Nat) (l : List Node), wgtL l ≤ N → wgtL l ≤ 1000000 →
    Spec Tryz.prog 16 [.d (.sl 3 (encNs l)), .d (.sl 3 (encNs l))] [] (fun r h' => r = .d (.bool true) ∧ h' = []) := by
  intro N
  induction N using Nat.strongRecOn with
  | _ N ih =>
  intro l hN hw
  have hll := encNs_length l
  have hlw : l.length ≤ wgtL l := by
    clear hN hw hll ih
    induction l with
    | nil => simp
    | cons a l ih => obtain ⟨t, v, k⟩ := a; rw [wgtL, wgtN, List.length_cons]; omega
  refine Spec_of_body hT Tryz.func16 rfl rfl rfl rfl ?_; intro E hE
  refine ww ?_
  refine AW_condL rfl (fun c1 => ?_) (fun c1 => ?_)
  · exact absurd c1 (by simp)
  refine ww ?_
  refine AW_loopL (ι := Nat) (fun i => [(0, .d (.sl 3 (encNs l))), (1, .d (.sl 3 (encNs l))), (5, .d (.int .i64 (i : Int)))]) (fun _ => []) (fun i => i ≤ l.length) (fun i => l.length - i) 0 (by omega) ⟨.refl _, .refl _, .refl _, trivial⟩ (HLe.refl _) ?_
  intro i hi
  have hwr : IntKind.i64.wrap ((i : Int) + 1) = ((i + 1 : Nat) : Int) := by rw [wrap_id (by omega)]; simp
  refine ww ?_
  refine AW_condL rfl (fun c2 => ?_) (fun c2 => ?_)
  · have c2' : i < l.length := by rw [hll] at c2; simpa using c2
    have hel : (encNs l)[((i : Int)).toNat]? = some (encN l[i]) := by simp [encNs_eq, c2']
    have hwt : wgtN l[i] ≤ wgtL l := by
      have h := wgtL_append (l.take i) (l.drop i)
      rw [List.take_append_drop, List.drop_eq_getElem_cons c2', wgtL] at h
      omega
    generalize l[i] = x at hel hwt
    obtain ⟨t, v, k⟩ := x
    rw [wgtN] at hwt
    have hrec := ih (wgtL k) (by omega) k (Nat.le_refl _) (by omega)
    rw [encN] at hel
    refine ww ?_
    refine wwi hel ?_
    refine ww ?_
    refine wwi hel ?_
    refine ww ?_
    refine wwgi hel ?_
    refine ww ?_
    refine AWd_gstep hT rfl rfl rfl rfl rfl (fun hg => ⟨(sg (C := True) hg).1, byteCells_encB v⟩) ?_
    refine ww ?_
    refine wwgi hel ?_
    refine ww ?_
    refine AWd_gstep hT rfl rfl rfl rfl rfl (fun hg => ⟨(sg (C := True) hg).1, byteCells_encB v⟩) ?_
    refine ww ?_
    refine wwgi hel ?_
    refine ww ?_
    refine wwgi hel ?_
    refine ww ?_
    refine wwgc hrec ?_
    refine ww ?_
    refine AW_condL rfl (fun c3 => ?_) (fun c3 => ?_)
    · exact absurd c3 (by simp)
    · refine ww ?_
      exact ⟨i + 1, by omega, by omega, ⟨.refl _, .refl _, .int hwr, trivial⟩, HLe.refl _⟩
  · refine ww ?_
    exact wwr
end Tdoc
/- 'opens': the functions that read a file answer like the reference, for any bytes. -/
set_option linter.unusedVariables false
set_option linter.unusedSimpArgs false
namespace Tdoc
open Go Go.Proofs

theorem grpLoop_len : ∀ (r : List UInt8) (out : List Int), out.length ≤ 16 → (grpLoop r out).1.length ≤ 16
  | [], out, h => h
  | c :: r, out, h => by
    unfold grpLoop
    split
    · simp
    · split
      · simp
      · rename_i h2
        have h3 := ascX_len 0 _ (by omega) (show ascX 0 (out ++ [(groupR c.toNat).1]) = 0 by omega)
        exact grpLoop_len r _ (by omega)
theorem groupsX_len (b : List UInt8) : (groupsX b).1.length ≤ 16 := by
  unfold groupsX
  split
  · simp
  · split
    · split
      · simp
      · exact grpLoop_len _ _ (by simp)
    · simp
theorem validT_data {t : Tpl} (h : validT t = 0) : t.data.length ≤ 1024 := by
  unfold validT at h
  split at h
  · simp at h
  split at h
  · simp at h
  split at h
  · simp at h
  split at h
  · simp at h
  split at h
  · simp at h
  · rename_i h5; omega
theorem bioO_ok (b : List UInt8) : (bioO b).2.1.length ≤ 8 ∧ ∀ t, t ∈ (bioO b).2.1 → t.data.length ≤ 1000000 := by
  have hd := decTs_ok (openX b).2.1
  have h0 : ([] : List Tpl).length ≤ 8 ∧ ∀ t, t ∈ ([] : List Tpl) → t.data.length ≤ 1000000 := ⟨by simp, fun t h => by cases h⟩
  unfold bioO
  split
  · exact h0
  split
  · exact h0
  split
  · exact h0
  split
  · exact h0
  · exact ⟨hd.2, fun t ht => by have := validT_data (hd.1 t ht); omega⟩
theorem detO_len (b : List UInt8) : (detO b).2.1.length ≤ 16 := by
  rw [← detP_detO]
  unfold detP detB2
  split
  · simp
  split
  · simp
  split
  · simp
  split
  · simp
  split
  · simp
  split
  · simp
  split
  · simp
  · rename_i h
    simp only
    unfold chkDs at h
    split at h
    · simp at h
    · omega
theorem infoO_len (b : List UInt8) : (infoO b).1.length ≤ 16 := by
  unfold infoO decI
  split
  · simp
  split
  · simp
  split
  · split
    · split
      · simp
      · split
        · simp
        · rename_i h
          simp only
          unfold validI at h
          split at h
          · simp at h
          · omega
    · simp
  · simp

set_option maxHeartbeats 8000000 in
set_option maxRecDepth 100000 in
theorem opens_spec (b : List UInt8) (hb : b.length ≤ 9223372036854775807) : Spec Tryz.prog 35 [.d (.sl 1 (encB b))] [] (fun r h' => r = .d (.bool true) ∧ h' = []) := by
  have p1 := Open_spec b hb
  have r1 := OpenRef_spec b hb
  have s1 := SameNodes_spec _ (openX b).2.1 (Nat.le_refl _) (by have := openX_wg b; omega)
  generalize openX b = q1 at p1 r1 s1
  obtain ⟨n1, l1, e1⟩ := q1
  have p2 := Groups_spec b hb
  have r2 := GroupsR_spec b hb
  have s2 := SameInts_self (groupsX b).1 (by have := groupsX_len b; omega)
  generalize groupsX b = q2 at p2 r2 s2
  obtain ⟨l2, e2⟩ := q2
  have p3 := OpenZone_spec b hb
  rw [zoneP_zoneO] at p3
  have r3 := OpenZoneR_spec b hb
  generalize zoneO b = q3 at p3 r3
  obtain ⟨⟨z0, z1, z2, z3, z4, z5, z6, z7, z8, z9, z10, z11⟩, e3⟩ := q3
  have p4 := OpenBio_spec b hb
  have r4 := OpenBioR_spec b hb
  have s4 := SameTpl_spec (bioO b).2.1 (by have := bioO_ok b; omega) (bioO_ok b).2
  generalize bioO b = q4 at p4 r4 s4
  obtain ⟨n4, l4, e4⟩ := q4
  have p5 := OpenDet_spec b hb
  rw [detP_detO] at p5
  have r5 := OpenDetR_spec b hb
  have s5 := SameDet_self (detO b).2.1 (by have := detO_len b; omega)
  generalize detO b = q5 at p5 r5 s5
  obtain ⟨n5, l5, e5⟩ := q5
  have p6 := OpenInf_spec b hb
  have r6 := OpenInfR_spec b hb
  have s6 := SameInf_self (infoO b).1 (by have := infoO_len b; omega)
  generalize infoO b = q6 at p6 r6 s6
  obtain ⟨l6, e6⟩ := q6
  have p7 := OpenActive_spec b hb
  have r7 := OpenActR_spec b hb
  generalize keyO b = q7 at p7 r7
  obtain ⟨k7, e7⟩ := q7
  unfold zAV zCells at p3 r3
  simp only at p1 r1 s1 p2 r2 s2 p3 r3 p4 r4 s4 p5 r5 s5 p6 r6 s6 p7 r7
  refine Spec_of_body hT Tryz.func35 rfl rfl rfl rfl ?_; intro E hE
  refine ww ?_
  refine wwc p1 ?_
  refine ww ?_
  refine wwc r1 ?_
  refine ww ?_
  refine wwgc s1 ?_
  refine ww ?_
  refine AW_condL rfl (fun c1 => ?_) (fun c1 => ?_)
  · exact absurd c1 (by simp)
  refine ww ?_
  refine wwc p2 ?_
  refine ww ?_
  refine wwc r2 ?_
  refine ww ?_
  refine wwgc s2 ?_
  refine ww ?_
  refine AW_condL rfl (fun c2 => ?_) (fun c2 => ?_)
  · exact absurd c2 (by simp)
  refine ww ?_
  refine wwc p3 ?_
  refine ww ?_
  refine wwc r3 ?_
  refine ww ?_
  refine AWk_gop rfl rfl rfl (fun hg => ⟨(sg (C := True) hg).1, OpS_of_pure (structNe_ok (ds := [.int .i64 z0, .str z1, .str z2, .str z3, .str z4, .str z5, .str z6, .str z7, .str z8, .str z9, .str z10, .str z11]) (es := [.int .i64 z0, .str z1, .str z2, .str z3, .str z4, .str z5, .str z6, .str z7, .str z8, .str z9, .str z10, .str z11]) (ks := [some .i64, none, none, none, none, none, none, none, none, none, none, none]) rfl (by kernel_rfl) (by kernel_rfl) (by kernel_rfl) (by kernel_rfl) rfl rfl rfl rfl)⟩) ?_
  refine ww ?_
  refine AW_condL rfl (fun c3 => ?_) (fun c3 => ?_)
  · exact absurd c3 (by simp [sameL, sameD])
  refine ww ?_
  refine wwc p4 ?_
  refine ww ?_
  refine wwc r4 ?_
  refine ww ?_
  refine wwgc s4 ?_
  refine ww ?_
  refine AW_condL rfl (fun c4 => ?_) (fun c4 => ?_)
  · exact absurd c4 (by simp)
  refine ww ?_
  refine wwc p5 ?_
  refine ww ?_
  refine wwc r5 ?_
  refine ww ?_
  refine wwgc s5 ?_
  refine ww ?_
  refine AW_condL rfl (fun c5 => ?_) (fun c5 => ?_)
  · exact absurd c5 (by simp)
  refine ww ?_
  refine wwc p6 ?_
  refine ww ?_
  refine wwc r6 ?_
  refine ww ?_
  refine wwc p7 ?_
  refine ww ?_
  refine wwc r7 ?_
  refine ww ?_
  refine wwgc s6 ?_
  refine ww ?_
  exact rq ⟨rfl, rfl⟩ rfl (.bool (by simp))

set_option maxHeartbeats 8000000 in
set_option maxRecDepth 100000 in
theorem datagroupsOpens_spec (b : List UInt8) (hb : b.length ≤ 9223372036854775807) : Spec Tryz.prog 5 [.d (.sl 1 (encB b))] [] (fun r h' => r = .d (.bool true) ∧ h' = []) := by
  have ho := opens_spec b hb
  refine Spec_of_body hT Tryz.func5 rfl rfl rfl rfl ?_; intro E hE
  refine ww ?_
  refine wwc awake_spec ?_
  refine ww ?_
  refine wwgc ho ?_
  refine ww ?_
  exact rq ⟨rfl, rfl⟩ rfl (.bool (by simp))
end Tdoc
