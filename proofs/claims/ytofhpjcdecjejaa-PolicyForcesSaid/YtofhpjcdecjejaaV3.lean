/- Plain: what is certain about a condition stays so with further results, and with all results it is certain. -/
import Derived.Test.YtofhpjcdecjejaaK5
import Derived.Test.YtofhpjcdecjejaaK2
import Derived.Test.YtofhpjcdecjejaaRows
set_option linter.unusedVariables false
set_option linter.unusedSimpArgs false
namespace Tdoc
open Go Go.Proofs

def SubR (s t : List Res) : Prop := ∀ ch v, valOf ch s = some v → valOf ch t = some v
def FullR (t : List Res) : Prop := ∀ ch, 1 ≤ ch → ch ≤ 13 → ∃ v, valOf ch t = some v

theorem foldF_eq {one : Int} (h1 : one ≠ 0) : ∀ (r : List Int) (all : Int), foldF one all r = if one ∈ r then one else if 0 ∈ r then 0 else all
  | [], all => by simp [foldF]
  | f :: r, all => by
    rw [foldF]
    by_cases hf : f = one
    · simp [hf]
    · rw [if_neg hf, foldF_eq h1 r]
      have h2 : one ≠ f := fun h => hf h.symm
      by_cases hr : one ∈ r
      · simp [hr]
      · simp only [hr, if_false, List.mem_cons, h2, or_false]
        by_cases h0 : (0 : Int) ∈ r
        · simp [h0]
        · simp only [h0, if_false, or_false]
          by_cases hf0 : f = 0
          · simp [hf0]
          · rw [if_neg hf0, if_neg (fun h => hf0 h.symm)]

theorem validC_inv {d : Nat} {k c v : Int} {kids : List Cond} (h : validC (d + 1) (.mk k c v kids) = true) :
    (k = 1 ∧ 1 ≤ c ∧ c ≤ 13) ∨ (k = 2 ∧ ∃ x, kids = [x] ∧ validC d x = true) ∨ ((k = 3 ∨ k = 4) ∧ ∀ x, x ∈ kids → validC d x = true) := by
  rw [validC] at h
  split at h
  · rename_i hk
    simp only [Bool.and_eq_true, decide_eq_true_eq] at h
    exact .inl ⟨hk, h.1.1.1.1, h.1.1.1.2⟩
  · split at h
    · cases h
    · split at h
      · rename_i hk
        simp only [Bool.and_eq_true, decide_eq_true_eq, Bool.not_eq_true'] at h
        obtain ⟨h1, h2⟩ := h
        match kids, h1 with
        | [x], _ => exact .inr (.inl ⟨hk, x, rfl, by simpa using h2⟩)
      · split at h
        · rename_i hk
          simp only [Bool.and_eq_true, Bool.not_eq_true', List.any_eq_false] at h
          exact .inr (.inr ⟨hk, fun x hx => by simpa using h.2 x hx⟩)
        · cases h

theorem validC_mono : ∀ (d : Nat) (c : Cond), validC d c = true → validC (d + 1) c = true
  | 0, c, h => by simp [validC] at h
  | d + 1, .mk k c v kids, h => by
    have hany : ∀ (hk : (kids.any fun x => !validC d x) = false), (kids.any fun x => !validC (d + 1) x) = false := by
      intro hk
      rw [List.any_eq_false] at hk ⊢
      intro x hx
      have := hk x hx
      simp only [Bool.not_eq_true', Bool.not_eq_false] at this
      simp [validC_mono d x this]
    rw [validC] at h ⊢
    split at h
    · rename_i hk; rw [if_pos hk]; exact h
    · rename_i hk
      rw [if_neg hk]
      split at h
      · cases h
      · rename_i hk2
        rw [if_neg hk2]
        split at h
        · rename_i hk3
          rw [if_pos hk3]
          simp only [Bool.and_eq_true, Bool.not_eq_true'] at h ⊢
          exact ⟨h.1, hany h.2⟩
        · rename_i hk3
          rw [if_neg hk3]
          split at h
          · rename_i hk4
            rw [if_pos hk4]
            simp only [Bool.and_eq_true, Bool.not_eq_true'] at h ⊢
            exact ⟨h.1, hany h.2⟩
          · cases h

theorem validC_le {d e : Nat} {c : Cond} (hde : d ≤ e) (h : validC d c = true) : validC e c = true := by
  induction hde with
  | refl => exact h
  | step _ ih => exact validC_mono _ _ ih

theorem notF_cases {f : Int} (h : 0 ≤ f ∧ f ≤ 2) : Int.tmod (3 - f) 3 = if f = 0 then 0 else 3 - f := by
  rw [Int.tmod_eq_emod_of_nonneg (by omega)]
  split <;> omega

theorem forced_sub {s t : List Res} (hst : SubR s t) : ∀ (d : Nat) (c : Cond), validC d c = true → forcedF s d c ≠ 0 → forcedF t d c = forcedF s d c
  | 0, c, hv, h => by simp [validC] at hv
  | d + 1, .mk k c v kids, hv, h => by
    rw [forcedF] at h ⊢
    rw [forcedF]
    rcases validC_inv hv with ⟨hk, h1, h2⟩ | ⟨hk, x, rfl, hx⟩ | ⟨hk, hx⟩
    · simp only [if_pos hk] at h ⊢
      cases hvs : valOf c s with
      | none => rw [hvs] at h; exact absurd rfl h
      | some w => rw [hst c w hvs]
    · have n1 : ¬ k = 1 := by omega
      simp only [if_neg n1, if_pos hk, List.map_cons, List.map_nil, notF] at h ⊢
      have hr := forcedF_range s d x
      rw [notF_cases hr] at h
      have hne : forcedF s d x ≠ 0 := fun h0 => by rw [if_pos h0] at h; exact h rfl
      rw [forced_sub hst d x hx hne]
    · have n1 : ¬ k = 1 := by omega
      have n2 : ¬ k = 2 := by omega
      simp only [if_neg n1, if_neg n2] at h ⊢
      generalize hone : (if k = 4 then (1 : Int) else 2) = one at h ⊢
      generalize (if k = 4 then (2 : Int) else 1) = all at h ⊢
      have hone0 : one ≠ 0 := by rw [← hone]; split <;> omega
      rw [foldF_eq hone0] at h
      rw [foldF_eq hone0, foldF_eq hone0]
      by_cases h1 : one ∈ kids.map fun x => forcedF s d x
      · have h2 : one ∈ kids.map fun x => forcedF t d x := by
          obtain ⟨x, hxm, hxe⟩ := List.mem_map.1 h1
          exact List.mem_map.2 ⟨x, hxm, by rw [forced_sub hst d x (hx x hxm) (by rw [hxe]; exact hone0), hxe]⟩
        rw [if_pos h1, if_pos h2]
      · rw [if_neg h1] at h
        by_cases h0 : (0 : Int) ∈ kids.map fun x => forcedF s d x
        · rw [if_pos h0] at h; exact absurd rfl h
        · have he : (kids.map fun x => forcedF t d x) = kids.map fun x => forcedF s d x :=
            List.map_congr_left fun x hxm => forced_sub hst d x (hx x hxm) fun h00 => h0 (List.mem_map.2 ⟨x, hxm, h00⟩)
          rw [he]

theorem forced_full {t : List Res} (hf : FullR t) : ∀ (d : Nat) (c : Cond), validC d c = true → forcedF t d c ≠ 0 ∧ (forcedF t d c = 1 ↔ holdsF t d c = true)
  | 0, c, hv => by simp [validC] at hv
  | d + 1, .mk k c v kids, hv => by
    rw [forcedF, holdsF]
    rcases validC_inv hv with ⟨hk, h1, h2⟩ | ⟨hk, x, rfl, hx⟩ | ⟨hk, hx⟩
    · simp only [if_pos hk]
      obtain ⟨w, hw⟩ := hf c h1 h2
      rw [hw]
      simp only [isF, isH]
      by_cases hwv : w = v
      · simp [hwv]
      · simp [hwv]
    · have n1 : ¬ k = 1 := by omega
      obtain ⟨i1, i2⟩ := forced_full hf d x hx
      have hr := forcedF_range t d x
      simp only [if_neg n1, if_pos hk, List.map_cons, List.map_nil, notF, List.headD_cons]
      rw [notF_cases hr, if_neg i1]
      refine ⟨by omega, ?_⟩
      cases hh : holdsF t d x with
      | true => rw [hh] at i2; have := i2.2 rfl; simp; omega
      | false => rw [hh] at i2; have : ¬ forcedF t d x = 1 := fun h => by have := i2.1 h; cases this
                 simp; omega
    · have n1 : ¬ k = 1 := by omega
      have n2 : ¬ k = 2 := by omega
      simp only [if_neg n1, if_neg n2]
      have ih := fun x hxm => forced_full hf d x (hx x hxm)
      have h0 : ¬ (0 : Int) ∈ kids.map fun x => forcedF t d x := fun h => by
        obtain ⟨x, hxm, hxe⟩ := List.mem_map.1 h
        exact (ih x hxm).1 hxe
      rcases hk with hk | hk
      · subst hk
        simp only [show ¬ (3 : Int) = 4 by omega, if_false, if_true]
        rw [foldF_eq (by omega), if_neg h0]
        by_cases h2 : (2 : Int) ∈ kids.map fun x => forcedF t d x
        · obtain ⟨x, hxm, hxe⟩ := List.mem_map.1 h2
          have hh : holdsF t d x = false := by
            cases hh : holdsF t d x with
            | false => rfl
            | true => have := (ih x hxm).2.2 hh; omega
          have : (kids.any fun x => !holdsF t d x) = true := List.any_eq_true.2 ⟨x, hxm, by rw [hh]; rfl⟩
          rw [if_pos h2, this]; simp
        · have : (kids.any fun x => !holdsF t d x) = false := by
            rw [List.any_eq_false]
            intro x hxm
            have hh := ih x hxm
            have hr := forcedF_range t d x
            have hne : forcedF t d x ≠ 2 := fun h => h2 (List.mem_map.2 ⟨x, hxm, h⟩)
            have := hh.2.1 (by have := hh.1; omega)
            simp [this]
          rw [if_neg h2, this]; simp
      · subst hk
        simp only [show ¬ (4 : Int) = 3 by omega, if_false, if_true]
        rw [foldF_eq (by omega), if_neg h0]
        by_cases h2 : (1 : Int) ∈ kids.map fun x => forcedF t d x
        · obtain ⟨x, hxm, hxe⟩ := List.mem_map.1 h2
          have : (kids.any fun x => holdsF t d x) = true := List.any_eq_true.2 ⟨x, hxm, (ih x hxm).2.1 hxe⟩
          rw [if_pos h2, this]; simp
        · have : (kids.any fun x => holdsF t d x) = false := by
            rw [List.any_eq_false]
            intro x hxm hx1
            exact h2 (List.mem_map.2 ⟨x, hxm, (ih x hxm).2.2 hx1⟩)
          rw [if_neg h2, this]; simp

/-! results that are made -/
theorem valOf_append {ch : Int} {s t : List Res} {v : Int} (h : valOf ch s = some v) : valOf ch (s ++ t) = some v := by
  unfold valOf at h ⊢
  rw [List.find?_append]
  simp only [Option.map_eq_some_iff] at h
  obtain ⟨r, hr, rfl⟩ := h
  simp [hr]

theorem SubR.take (s : List Res) (i : Nat) : SubR (s.take i) s := fun ch v h => by
  have := valOf_append (t := s.drop i) h
  rwa [List.take_append_drop] at this

theorem resM_valOf (l : List Int) : ∀ (k j : Nat), j < k → valOf (((j + 1 : Nat) : Int)) (resM l k) = some (1 + nextV l (min j l.length) 4)
  | 0, j, h => by omega
  | k + 1, j, h => by
    rw [resM_succ]
    by_cases hj : j < k
    · exact valOf_append (resM_valOf l k j hj)
    · have hjk : j = k := by omega
      subst hjk
      have hnone : (resM l j).find? (fun r => r.1 == ((j + 1 : Nat) : Int)) = none := by
        rw [List.find?_eq_none]
        intro r hr
        simp only [resM, List.mem_map, List.mem_range] at hr
        obtain ⟨i, hi, rfl⟩ := hr
        simp; omega
      unfold valOf
      rw [List.find?_append, hnone]
      simp

theorem resM_mem {l : List Int} {k : Nat} {r : Res} (h : r ∈ resM l k) : valOf r.1 (resM l k) = some r.2 := by
  simp only [resM, List.mem_map, List.mem_range] at h
  obtain ⟨i, hi, rfl⟩ := h
  exact resM_valOf l k i hi

theorem resM_full (l : List Int) : FullR (resM l 13) := fun ch h1 h2 => by
  have := resM_valOf l 13 (ch.toNat - 1) (by omega)
  rw [show (((ch.toNat - 1 + 1 : Nat) : Int)) = ch by omega] at this
  exact ⟨_, this⟩

theorem sub_of_mem {l : List Int} {k : Nat} {s : List Res} (h : ∀ r, r ∈ s → r ∈ resM l k) : SubR s (resM l k) := fun ch v hv => by
  unfold valOf at hv
  simp only [Option.map_eq_some_iff] at hv
  obtain ⟨r, hr, rfl⟩ := hv
  have hm := h r (List.mem_of_find?_eq_some hr)
  have hc := List.find?_some hr
  have : r.1 = ch := by simpa using hc
  rw [← this]
  exact resM_mem hm
end Tdoc
/- The law PolicyForces: the walk, and its answer. -/
set_option linter.unusedVariables false
set_option linter.unusedSimpArgs false
namespace Tdoc
open Go Go.Proofs

/-- The further results: those of 'all' whose places the numbers name. -/
def someM (all : List Res) (more : List Int) : List Res := more.map fun m => (all[(modP m all.length).toNat]?).getD (0, 0)
theorem someM_length (all : List Res) (more : List Int) : (someM all more).length = more.length := by simp [someM]
theorem someM_succ {all : List Res} {more : List Int} {i : Nat} {m : Int} (h : more[i]? = some m) : someM all (more.take (i + 1)) = someM all (more.take i) ++ [(all[(modP m all.length).toNat]?).getD (0, 0)] := by
  simp [someM, List.take_add_one, h]
theorem someM_mem {all : List Res} {more : List Int} (ha : 1 ≤ all.length) {r : Res} (h : r ∈ someM all more) : r ∈ all := by
  simp only [someM, List.mem_map] at h
  obtain ⟨m, _, rfl⟩ := h
  have hr := modP_range (x := m) (n := (all.length : Int)) (by omega)
  have hlt : (modP m all.length).toNat < all.length := by omega
  rw [List.getElem?_eq_getElem hlt]
  exact List.getElem_mem hlt

theorem encRes_take (l : List Res) (i : Nat) : (encRes l).take i = encRes (l.take i) := by simp [encRes, List.map_take]

theorem Forced_take {c : Cond} {s : List Res} (hv : validC 8 c = true) (i : Nat) (h : forcedP c (s.take i) ≠ 0) : forcedP c s = forcedP c (s.take i) := by
  unfold forcedP at h ⊢
  rw [if_pos hv] at h ⊢
  rw [if_pos hv]
  exact forced_sub (SubR.take s i) 8 c hv h

set_option maxHeartbeats 8000000 in
set_option maxRecDepth 100000 in
theorem policyForces_spec (l : List Int) (_ : ∀ n, n ∈ l → (Lit.int .i64 n).wf = true) (_ : l.length ≤ maxLen) (res : List Int) (_ : ∀ n, n ∈ res → (Lit.int .i64 n).wf = true) (_ : res.length ≤ maxLen) (more : List Int) (_ : ∀ n, n ∈ more → (Lit.int .i64 n).wf = true) (_ : more.length ≤ maxLen) :
    Spec Try.prog 5 [.d (.sl 1 (numsD .i64 l)), .d (.sl 1 (numsD .i64 res)), .d (.sl 1 (numsD .i64 more))] [] (fun r h' => r = .d (.bool true) ∧ h' = []) := by
  have hml := numsD_length .i64 more
  refine Spec_of_body hT Try.func5 rfl rfl rfl rfl ?_
  intro E hE
  repeat (first | refine AWd_step hT rfl rfl rfl (by first | exact True.intro | omega | exact sd) ?_ | refine AWk_step hT rfl rfl (by first | exact True.intro | omega | exact sd) ?_ | refine AWk_step0 hT rfl (by first | exact True.intro | omega | exact sd) ?_ | refine AWd_nil ?_ | refine AWk_nil ?_ | refine AWd_gstep hT rfl rfl rfl rfl rfl (by intro hg; first | exact ⟨True.intro, True.intro⟩ | exact sg hg) ?_ | refine AWk_gstep hT rfl rfl rfl rfl (by intro hg; first | exact ⟨True.intro, True.intro⟩ | exact sg hg) ?_ | refine AW_seq ?_ | refine AW_region ?_ | refine AW_draw mixed (by kernel_rfl) ?_ | refine AW_block ?_ | refine AW_skip ?_ | refine AW_exit ?_ | refine AW_ret ?_)
  refine AWk_op (callS0 rfl rfl (Light_spec l) rfl rfl rfl) rfl ?_
  repeat (first | refine AWd_step hT rfl rfl rfl (by first | exact True.intro | omega | exact sd) ?_ | refine AWk_step hT rfl rfl (by first | exact True.intro | omega | exact sd) ?_ | refine AWk_step0 hT rfl (by first | exact True.intro | omega | exact sd) ?_ | refine AWd_nil ?_ | refine AWk_nil ?_ | refine AWd_gstep hT rfl rfl rfl rfl rfl (by intro hg; first | exact ⟨True.intro, True.intro⟩ | exact sg hg) ?_ | refine AWk_gstep hT rfl rfl rfl rfl (by intro hg; first | exact ⟨True.intro, True.intro⟩ | exact sg hg) ?_ | refine AW_seq ?_ | refine AW_region ?_ | refine AW_draw mixed (by kernel_rfl) ?_ | refine AW_block ?_ | refine AW_skip ?_ | refine AW_exit ?_ | refine AW_ret ?_)
  refine AWk_gop rfl rfl rfl (fun hg => ⟨by first | exact True.intro | exact ⟨hg, True.intro⟩ | exact ⟨hg, hg, True.intro⟩, callS0 rfl rfl (Light_spec res) rfl rfl rfl⟩) ?_
  repeat (first | refine AWd_step hT rfl rfl rfl (by first | exact True.intro | omega | exact sd) ?_ | refine AWk_step hT rfl rfl (by first | exact True.intro | omega | exact sd) ?_ | refine AWk_step0 hT rfl (by first | exact True.intro | omega | exact sd) ?_ | refine AWd_nil ?_ | refine AWk_nil ?_ | refine AWd_gstep hT rfl rfl rfl rfl rfl (by intro hg; first | exact ⟨True.intro, True.intro⟩ | exact sg hg) ?_ | refine AWk_gstep hT rfl rfl rfl rfl (by intro hg; first | exact ⟨True.intro, True.intro⟩ | exact sg hg) ?_ | refine AW_seq ?_ | refine AW_region ?_ | refine AW_draw mixed (by kernel_rfl) ?_ | refine AW_block ?_ | refine AW_skip ?_ | refine AW_exit ?_ | refine AW_ret ?_)
  refine AW_condL rfl (fun h1 => ?_) (fun h1 => ?_)
  · repeat (first | refine AWd_step hT rfl rfl rfl (by first | exact True.intro | omega | exact sd) ?_ | refine AWk_step hT rfl rfl (by first | exact True.intro | omega | exact sd) ?_ | refine AWk_step0 hT rfl (by first | exact True.intro | omega | exact sd) ?_ | refine AWd_nil ?_ | refine AWk_nil ?_ | refine AWd_gstep hT rfl rfl rfl rfl rfl (by intro hg; first | exact ⟨True.intro, True.intro⟩ | exact sg hg) ?_ | refine AWk_gstep hT rfl rfl rfl rfl (by intro hg; first | exact ⟨True.intro, True.intro⟩ | exact sg hg) ?_ | refine AW_seq ?_ | refine AW_region ?_ | refine AW_draw mixed (by kernel_rfl) ?_ | refine AW_block ?_ | refine AW_skip ?_ | refine AW_exit ?_ | refine AW_ret ?_)
    refine AWk_op (callS0 rfl rfl awake_spec rfl rfl rfl) rfl ?_
    repeat (first | refine AWd_step hT rfl rfl rfl (by first | exact True.intro | omega | exact sd) ?_ | refine AWk_step hT rfl rfl (by first | exact True.intro | omega | exact sd) ?_ | refine AWk_step0 hT rfl (by first | exact True.intro | omega | exact sd) ?_ | refine AWd_nil ?_ | refine AWk_nil ?_ | refine AWd_gstep hT rfl rfl rfl rfl rfl (by intro hg; first | exact ⟨True.intro, True.intro⟩ | exact sg hg) ?_ | refine AWk_gstep hT rfl rfl rfl rfl (by intro hg; first | exact ⟨True.intro, True.intro⟩ | exact sg hg) ?_ | refine AW_seq ?_ | refine AW_region ?_ | refine AW_draw mixed (by kernel_rfl) ?_ | refine AW_block ?_ | refine AW_skip ?_ | refine AW_exit ?_ | refine AW_ret ?_)
    exact ret_exact rfl (.refl _) rfl rfl rfl rfl ⟨rfl, rfl⟩
  · have h1' : l.length ≤ 80 ∧ res.length ≤ 80 ∧ more.length ≤ 20 := by
      rw [hml] at h1
      simp at h1; omega
    have hroll := Roll_spec l (by omega)
    have hcond := Cond_spec l (by omega) 3 0 0 (by omega) (by omega)
    have hok := condM_ok l 3 0 0 (by omega)
    have hv8 : validC 8 (condM l 3 0 0).1 = true := validC_le (by omega) hok.2.1
    have hsm := hok.2.2.1
    have hres := Results_spec res (by omega)
    have hsub : SubR (someM (resM res 13) more) (resM res 13) := sub_of_mem fun r hr => someM_mem (by rw [resM_length]; omega) hr
    have hfull := resM_full res
    have hall := resM_length res 13
    generalize condM l 3 0 0 = p at hcond hv8 hsm
    clear hok
    obtain ⟨⟨ck, cc, cv, kids⟩, a'⟩ := p
    generalize resM res 13 = all at hres hsub hfull hall
    simp only at hcond hv8 hsm
    have hel := encRes_length all
    have hF := fun (s : List Res) (hs : s.length ≤ 1000000) => Forced_spec (.mk ck cc cv kids) s hs hsm
    have hH := Holds_spec (.mk ck cc cv kids) all (by omega) hsm
    have hfa := forced_full hfull 8 _ hv8
    have hfaP : forcedP (.mk ck cc cv kids) all = forcedF all 8 (.mk ck cc cv kids) := by unfold forcedP; rw [if_pos hv8]
    have hhaP : holdsP (.mk ck cc cv kids) all = holdsF all 8 (.mk ck cc cv kids) := by unfold holdsP; rw [hv8]; rfl
    rw [← hfaP, ← hhaP] at hfa
    have hlaw : ∀ i, forcedP (.mk ck cc cv kids) ((someM all more).take i) ≠ 0 → forcedP (.mk ck cc cv kids) (someM all more) = forcedP (.mk ck cc cv kids) ((someM all more).take i) ∧ forcedP (.mk ck cc cv kids) all = forcedP (.mk ck cc cv kids) ((someM all more).take i) := by
      intro i hi
      have h1 := Forced_take hv8 i hi
      refine ⟨h1, ?_⟩
      rw [← h1] at hi ⊢
      unfold forcedP at hi ⊢
      rw [if_pos hv8] at hi ⊢
      rw [if_pos hv8]
      exact forced_sub hsub 8 _ hv8 hi
    repeat (first | refine AW_exit ?_ | refine AW_skip ?_)
    refine AW_room ?_
    repeat (first | refine AWd_step hT rfl rfl rfl (by first | exact True.intro | omega | exact sd) ?_ | refine AWk_step hT rfl rfl (by first | exact True.intro | omega | exact sd) ?_ | refine AWk_step0 hT rfl (by first | exact True.intro | omega | exact sd) ?_ | refine AWd_nil ?_ | refine AWk_nil ?_ | refine AWd_gstep hT rfl rfl rfl rfl rfl (by intro hg; first | exact ⟨True.intro, True.intro⟩ | exact sg hg) ?_ | refine AWk_gstep hT rfl rfl rfl rfl (by intro hg; first | exact ⟨True.intro, True.intro⟩ | exact sg hg) ?_ | refine AW_seq ?_ | refine AW_region ?_ | refine AW_draw mixed (by kernel_rfl) ?_ | refine AW_block ?_ | refine AW_skip ?_ | refine AW_exit ?_ | refine AW_ret ?_)
    refine AWk_opF (callS rfl rfl hroll [0] (by decide) rfl rfl rfl rfl rfl rfl) rfl rfl ?_
    repeat (first | refine AWd_step hT rfl rfl rfl (by first | exact True.intro | omega | exact sd) ?_ | refine AWk_step hT rfl rfl (by first | exact True.intro | omega | exact sd) ?_ | refine AWk_step0 hT rfl (by first | exact True.intro | omega | exact sd) ?_ | refine AWd_nil ?_ | refine AWk_nil ?_ | refine AWd_gstep hT rfl rfl rfl rfl rfl (by intro hg; first | exact ⟨True.intro, True.intro⟩ | exact sg hg) ?_ | refine AWk_gstep hT rfl rfl rfl rfl (by intro hg; first | exact ⟨True.intro, True.intro⟩ | exact sg hg) ?_ | refine AW_seq ?_ | refine AW_region ?_ | refine AW_draw mixed (by kernel_rfl) ?_ | refine AW_block ?_ | refine AW_skip ?_ | refine AW_exit ?_ | refine AW_ret ?_)
    refine AWk_op (callS1 rfl rfl hcond [0] (by decide) rfl rfl rfl rfl rfl (ren_cAV _ _) rfl) rfl ?_
    repeat (first | refine AWd_step hT rfl rfl rfl (by first | exact True.intro | omega | exact sd) ?_ | refine AWk_step hT rfl rfl (by first | exact True.intro | omega | exact sd) ?_ | refine AWk_step0 hT rfl (by first | exact True.intro | omega | exact sd) ?_ | refine AWd_nil ?_ | refine AWk_nil ?_ | refine AWd_gstep hT rfl rfl rfl rfl rfl (by intro hg; first | exact ⟨True.intro, True.intro⟩ | exact sg hg) ?_ | refine AWk_gstep hT rfl rfl rfl rfl (by intro hg; first | exact ⟨True.intro, True.intro⟩ | exact sg hg) ?_ | refine AW_seq ?_ | refine AW_region ?_ | refine AW_draw mixed (by kernel_rfl) ?_ | refine AW_block ?_ | refine AW_skip ?_ | refine AW_exit ?_ | refine AW_ret ?_)
    refine AWk_op (callS0 rfl rfl hres rfl rfl rfl) rfl ?_
    repeat (first | refine AWd_step hT rfl rfl rfl (by first | exact True.intro | omega | exact sd) ?_ | refine AWk_step hT rfl rfl (by first | exact True.intro | omega | exact sd) ?_ | refine AWk_step0 hT rfl (by first | exact True.intro | omega | exact sd) ?_ | refine AWd_nil ?_ | refine AWk_nil ?_ | refine AWd_gstep hT rfl rfl rfl rfl rfl (by intro hg; first | exact ⟨True.intro, True.intro⟩ | exact sg hg) ?_ | refine AWk_gstep hT rfl rfl rfl rfl (by intro hg; first | exact ⟨True.intro, True.intro⟩ | exact sg hg) ?_ | refine AW_seq ?_ | refine AW_region ?_ | refine AW_draw mixed (by kernel_rfl) ?_ | refine AW_block ?_ | refine AW_skip ?_ | refine AW_exit ?_ | refine AW_ret ?_)
    refine AW_room (AW_acquireAt 9 2 2 (es := []) (.inr ⟨rfl, rfl⟩) rfl ?_)
    refine AW_loopL (ι := Nat) (fun i => [(2, .d (.sl 1 (numsD .i64 more))), (7, .ptr 1 0), (8, .d (.sl 2 (encRes all))), (9, .sl 2 (encRes (someM all (more.take i))) (.right 2)), (10, .d (.int .i64 (i : Int)))])
      (fun i => [.row (dice l a'), .row [.d (.int .i64 ck), .d (.int .i64 cc), .d (.int .i64 cv), .d (.sl 4 (encCs kids))], .right 2 (encRes (someM all (more.take i))).length]) (fun i => i ≤ more.length) (fun i => more.length - i) 0 (by omega)
      ⟨.refl _, .refl _, .refl _, .refl _, .refl _, trivial⟩ (HLe.refl _) ?_
    intro i hi
    have hwr : IntKind.i64.wrap ((i : Int) + 1) = ((i + 1 : Nat) : Int) := by rw [wrap_id (by omega)]; simp
    repeat (first | refine AWd_step hT rfl rfl rfl (by first | exact True.intro | omega | exact sd) ?_ | refine AWk_step hT rfl rfl (by first | exact True.intro | omega | exact sd) ?_ | refine AWk_step0 hT rfl (by first | exact True.intro | omega | exact sd) ?_ | refine AWd_nil ?_ | refine AWk_nil ?_ | refine AWd_gstep hT rfl rfl rfl rfl rfl (by intro hg; first | exact ⟨True.intro, True.intro⟩ | exact sg hg) ?_ | refine AWk_gstep hT rfl rfl rfl rfl (by intro hg; first | exact ⟨True.intro, True.intro⟩ | exact sg hg) ?_ | refine AW_seq ?_ | refine AW_region ?_ | refine AW_draw mixed (by kernel_rfl) ?_ | refine AW_block ?_ | refine AW_skip ?_ | refine AW_exit ?_ | refine AW_ret ?_)
    refine AW_condL rfl (fun h2 => ?_) (fun h2 => ?_)
    · have hlt : i < more.length := by rw [hml] at h2; simp at h2; omega
      have hget : more[i]? = some more[i] := by simp [hlt]
      have hidx : (numsD .i64 more)[((i : Int)).toNat]? = some [.int .i64 more[i]] := by simp [numsD, hlt]
      have hsucc := someM_succ (all := all) hget
      generalize more[i] = m at hidx hsucc
      have hmod := Mod_spec m ((encRes all).length : Int) (by omega)
      have hmr := modP_range (x := m) (n := (all.length : Int)) (by omega)
      rw [hel] at hmod
      have hlm : (modP m all.length).toNat < all.length := by omega
      have hge : all[(modP m all.length).toNat]? = some all[(modP m all.length).toNat] := by simp [hlm]
      have hix : (encRes all)[(modP m (all.length : Int)).toNat]? = some (encRe all[(modP m all.length).toNat]) := by simp [encRes, hlm]
      rw [hge] at hsucc
      generalize all[(modP m all.length).toNat] = r at hsucc hix
      obtain ⟨ra, rb⟩ := r
      generalize modP m (all.length : Int) = q at hmod hmr hix
      rw [← hel] at hmod
      have hlen := encRes_length (someM all (more.take i))
      have hlen2 := someM_length all (more.take i)
      have hlen3 : (more.take i).length ≤ 20 := by simp; omega
      repeat (first | refine AWd_step hT rfl rfl rfl (by first | exact True.intro | omega | exact sd) ?_ | refine AWk_step hT rfl rfl (by first | exact True.intro | omega | exact sd) ?_ | refine AWk_step0 hT rfl (by first | exact True.intro | omega | exact sd) ?_ | refine AWd_nil ?_ | refine AWk_nil ?_ | refine AWd_gstep hT rfl rfl rfl rfl rfl (by intro hg; first | exact ⟨True.intro, True.intro⟩ | exact sg hg) ?_ | refine AWk_gstep hT rfl rfl rfl rfl (by intro hg; first | exact ⟨True.intro, True.intro⟩ | exact sg hg) ?_ | refine AW_seq ?_ | refine AW_region ?_ | refine AW_draw mixed (by kernel_rfl) ?_ | refine AW_block ?_ | refine AW_skip ?_ | refine AW_exit ?_ | refine AW_ret ?_)
      refine AWk_op (OpS_of_pure (indexAddr_ok hT rfl rfl rfl rfl (by omega) hidx)) rfl ?_
      repeat (first | refine AWd_step hT rfl rfl rfl (by first | exact True.intro | omega | exact sd) ?_ | refine AWk_step hT rfl rfl (by first | exact True.intro | omega | exact sd) ?_ | refine AWk_step0 hT rfl (by first | exact True.intro | omega | exact sd) ?_ | refine AWd_nil ?_ | refine AWk_nil ?_ | refine AWd_gstep hT rfl rfl rfl rfl rfl (by intro hg; first | exact ⟨True.intro, True.intro⟩ | exact sg hg) ?_ | refine AWk_gstep hT rfl rfl rfl rfl (by intro hg; first | exact ⟨True.intro, True.intro⟩ | exact sg hg) ?_ | refine AW_seq ?_ | refine AW_region ?_ | refine AW_draw mixed (by kernel_rfl) ?_ | refine AW_block ?_ | refine AW_skip ?_ | refine AW_exit ?_ | refine AW_ret ?_)
      refine AWk_op (callS0 rfl rfl hmod rfl rfl rfl) rfl ?_
      repeat (first | refine AWd_step hT rfl rfl rfl (by first | exact True.intro | omega | exact sd) ?_ | refine AWk_step hT rfl rfl (by first | exact True.intro | omega | exact sd) ?_ | refine AWk_step0 hT rfl (by first | exact True.intro | omega | exact sd) ?_ | refine AWd_nil ?_ | refine AWk_nil ?_ | refine AWd_gstep hT rfl rfl rfl rfl rfl (by intro hg; first | exact ⟨True.intro, True.intro⟩ | exact sg hg) ?_ | refine AWk_gstep hT rfl rfl rfl rfl (by intro hg; first | exact ⟨True.intro, True.intro⟩ | exact sg hg) ?_ | refine AW_seq ?_ | refine AW_region ?_ | refine AW_draw mixed (by kernel_rfl) ?_ | refine AW_block ?_ | refine AW_skip ?_ | refine AW_exit ?_ | refine AW_ret ?_)
      refine AWk_op (OpS_of_pure (indexAddr_ok hT rfl rfl rfl rfl (by omega) hix)) rfl ?_
      repeat (first | refine AWd_step hT rfl rfl rfl (by first | exact True.intro | omega | exact sd) ?_ | refine AWk_step hT rfl rfl (by first | exact True.intro | omega | exact sd) ?_ | refine AWk_step0 hT rfl (by first | exact True.intro | omega | exact sd) ?_ | refine AWd_nil ?_ | refine AWk_nil ?_ | refine AWd_gstep hT rfl rfl rfl rfl rfl (by intro hg; first | exact ⟨True.intro, True.intro⟩ | exact sg hg) ?_ | refine AWk_gstep hT rfl rfl rfl rfl (by intro hg; first | exact ⟨True.intro, True.intro⟩ | exact sg hg) ?_ | refine AW_seq ?_ | refine AW_region ?_ | refine AW_draw mixed (by kernel_rfl) ?_ | refine AW_block ?_ | refine AW_skip ?_ | refine AW_exit ?_ | refine AW_ret ?_)
      refine AWk_op (append_right (i := 2) hT rfl rfl rfl rfl rfl rfl (by show ((encRes (someM all (more.take i))).length + 1) * (16 + 1) ≤ 140737488355328; omega)) rfl ?_
      repeat (first | refine AWd_step hT rfl rfl rfl (by first | exact True.intro | omega | exact sd) ?_ | refine AWk_step hT rfl rfl (by first | exact True.intro | omega | exact sd) ?_ | refine AWk_step0 hT rfl (by first | exact True.intro | omega | exact sd) ?_ | refine AWd_nil ?_ | refine AWk_nil ?_ | refine AWd_gstep hT rfl rfl rfl rfl rfl (by intro hg; first | exact ⟨True.intro, True.intro⟩ | exact sg hg) ?_ | refine AWk_gstep hT rfl rfl rfl rfl (by intro hg; first | exact ⟨True.intro, True.intro⟩ | exact sg hg) ?_ | refine AW_seq ?_ | refine AW_region ?_ | refine AW_draw mixed (by kernel_rfl) ?_ | refine AW_block ?_ | refine AW_skip ?_ | refine AW_exit ?_ | refine AW_ret ?_)
      refine ⟨i + 1, by omega, by omega, ⟨.refl _, .refl _, .refl _, AV.le.eq ?_, AV.le.eq (by show AV.d (.int .i64 (IntKind.i64.wrap ((i : Int) + 1))) = _; rw [hwr]), trivial⟩, ⟨ObLe.refl _, ObLe.refl _, ⟨rfl, ?_⟩, trivial⟩⟩
      · rw [hsucc, encRes_append]; rfl
      · rw [hsucc, encRes_append, List.length_append]; rfl
    · have hge : i = more.length := by rw [hml] at h2; simp at h2; omega
      subst hge
      simp only [List.take_length]
      have hSl := someM_length all more
      have hSe := encRes_length (someM all more)
      generalize someM all more = S at hlaw hSl hSe ⊢
      have hFS := hF S (by omega)
      have hFA := hF all (by omega)
      generalize hfa' : forcedP (.mk ck cc cv kids) all = fa at hfa hlaw hFA
      generalize holdsP (.mk ck cc cv kids) all = ha at hfa hH
      repeat (first | refine AWd_step hT rfl rfl rfl (by first | exact True.intro | omega | exact sd) ?_ | refine AWk_step hT rfl rfl (by first | exact True.intro | omega | exact sd) ?_ | refine AWk_step0 hT rfl (by first | exact True.intro | omega | exact sd) ?_ | refine AWd_nil ?_ | refine AWk_nil ?_ | refine AWd_gstep hT rfl rfl rfl rfl rfl (by intro hg; first | exact ⟨True.intro, True.intro⟩ | exact sg hg) ?_ | refine AWk_gstep hT rfl rfl rfl rfl (by intro hg; first | exact ⟨True.intro, True.intro⟩ | exact sg hg) ?_ | refine AW_seq ?_ | refine AW_region ?_ | refine AW_draw mixed (by kernel_rfl) ?_ | refine AW_block ?_ | refine AW_skip ?_ | refine AW_exit ?_ | refine AW_ret ?_)
      refine AW_loopL (ι := Nat) (fun i => [(7, .ptr 1 0), (8, .d (.sl 2 (encRes all))), (9, .d (.sl 2 (encRes S))), (11, .d (.int .i64 (i : Int)))])
        (fun i => [.row (dice l a'), .row [.d (.int .i64 ck), .d (.int .i64 cc), .d (.int .i64 cv), .d (.sl 4 (encCs kids))], .dead]) (fun i => i ≤ S.length + 1) (fun i => S.length + 1 - i) 0 (by omega)
        ⟨.refl _, .refl _, AV.le.dat, .refl _, trivial⟩ ⟨ObLe.refl _, ObLe.refl _, trivial, trivial⟩ ?_
      intro i hi
      have hwr : IntKind.i64.wrap ((i : Int) + 1) = ((i + 1 : Nat) : Int) := by rw [wrap_id (by omega)]; simp
      repeat (first | refine AWd_step hT rfl rfl rfl (by first | exact True.intro | omega | exact sd) ?_ | refine AWk_step hT rfl rfl (by first | exact True.intro | omega | exact sd) ?_ | refine AWk_step0 hT rfl (by first | exact True.intro | omega | exact sd) ?_ | refine AWd_nil ?_ | refine AWk_nil ?_ | refine AWd_gstep hT rfl rfl rfl rfl rfl (by intro hg; first | exact ⟨True.intro, True.intro⟩ | exact sg hg) ?_ | refine AWk_gstep hT rfl rfl rfl rfl (by intro hg; first | exact ⟨True.intro, True.intro⟩ | exact sg hg) ?_ | refine AW_seq ?_ | refine AW_region ?_ | refine AW_draw mixed (by kernel_rfl) ?_ | refine AW_block ?_ | refine AW_skip ?_ | refine AW_exit ?_ | refine AW_ret ?_)
      refine AW_condL rfl (fun h3 => ?_) (fun h3 => ?_)
      · have hlt : i ≤ S.length := by rw [hSe] at h3; simp at h3; omega
        have hFi := hF (S.take i) (by simp; omega)
        rw [← encRes_take] at hFi
        have hli := hlaw i
        generalize forcedP (.mk ck cc cv kids) (S.take i) = f at hFi hli
        generalize forcedP (.mk ck cc cv kids) S = fs at hFS hli
        repeat (first | refine AWd_step hT rfl rfl rfl (by first | exact True.intro | omega | exact sd) ?_ | refine AWk_step hT rfl rfl (by first | exact True.intro | omega | exact sd) ?_ | refine AWk_step0 hT rfl (by first | exact True.intro | omega | exact sd) ?_ | refine AWd_nil ?_ | refine AWk_nil ?_ | refine AWd_gstep hT rfl rfl rfl rfl rfl (by intro hg; first | exact ⟨True.intro, True.intro⟩ | exact sg hg) ?_ | refine AWk_gstep hT rfl rfl rfl rfl (by intro hg; first | exact ⟨True.intro, True.intro⟩ | exact sg hg) ?_ | refine AW_seq ?_ | refine AW_region ?_ | refine AW_draw mixed (by kernel_rfl) ?_ | refine AW_block ?_ | refine AW_skip ?_ | refine AW_exit ?_ | refine AW_ret ?_)
        refine AWd_op (callS0 rfl rfl hFi rfl rfl rfl) rfl rfl ?_
        repeat (first | refine AWd_step hT rfl rfl rfl (by first | exact True.intro | omega | exact sd) ?_ | refine AWk_step hT rfl rfl (by first | exact True.intro | omega | exact sd) ?_ | refine AWk_step0 hT rfl (by first | exact True.intro | omega | exact sd) ?_ | refine AWd_nil ?_ | refine AWk_nil ?_ | refine AWd_gstep hT rfl rfl rfl rfl rfl (by intro hg; first | exact ⟨True.intro, True.intro⟩ | exact sg hg) ?_ | refine AWk_gstep hT rfl rfl rfl rfl (by intro hg; first | exact ⟨True.intro, True.intro⟩ | exact sg hg) ?_ | refine AW_seq ?_ | refine AW_region ?_ | refine AW_draw mixed (by kernel_rfl) ?_ | refine AW_block ?_ | refine AW_skip ?_ | refine AW_exit ?_ | refine AW_ret ?_)
        refine AWk_gop rfl rfl rfl (fun hg => ⟨by first | exact True.intro | exact ⟨hg, True.intro⟩ | exact ⟨hg, hg, True.intro⟩, callS0 rfl rfl hFS rfl rfl rfl⟩) ?_
        repeat (first | refine AWd_step hT rfl rfl rfl (by first | exact True.intro | omega | exact sd) ?_ | refine AWk_step hT rfl rfl (by first | exact True.intro | omega | exact sd) ?_ | refine AWk_step0 hT rfl (by first | exact True.intro | omega | exact sd) ?_ | refine AWd_nil ?_ | refine AWk_nil ?_ | refine AWd_gstep hT rfl rfl rfl rfl rfl (by intro hg; first | exact ⟨True.intro, True.intro⟩ | exact sg hg) ?_ | refine AWk_gstep hT rfl rfl rfl rfl (by intro hg; first | exact ⟨True.intro, True.intro⟩ | exact sg hg) ?_ | refine AW_seq ?_ | refine AW_region ?_ | refine AW_draw mixed (by kernel_rfl) ?_ | refine AW_block ?_ | refine AW_skip ?_ | refine AW_exit ?_ | refine AW_ret ?_)
        refine AWk_gop rfl rfl rfl (fun hg => ⟨by first | exact True.intro | exact ⟨hg, True.intro⟩ | exact ⟨hg, hg, True.intro⟩, callS0 rfl rfl hH rfl rfl rfl⟩) ?_
        repeat (first | refine AWd_step hT rfl rfl rfl (by first | exact True.intro | omega | exact sd) ?_ | refine AWk_step hT rfl rfl (by first | exact True.intro | omega | exact sd) ?_ | refine AWk_step0 hT rfl (by first | exact True.intro | omega | exact sd) ?_ | refine AWd_nil ?_ | refine AWk_nil ?_ | refine AWd_gstep hT rfl rfl rfl rfl rfl (by intro hg; first | exact ⟨True.intro, True.intro⟩ | exact sg hg) ?_ | refine AWk_gstep hT rfl rfl rfl rfl (by intro hg; first | exact ⟨True.intro, True.intro⟩ | exact sg hg) ?_ | refine AW_seq ?_ | refine AW_region ?_ | refine AW_draw mixed (by kernel_rfl) ?_ | refine AW_block ?_ | refine AW_skip ?_ | refine AW_exit ?_ | refine AW_ret ?_)
        refine AW_condL rfl (fun h4 => ?_) (fun h4 => ?_)
        · exfalso
          by_cases hf0 : f = 0
          · rw [hf0] at h4; simp at h4
          · obtain ⟨e1, e2⟩ := hli hf0
            rw [e2] at hfa
            have e : (f == 1) = ha := Bool.eq_iff_iff.2 (by rw [beq_iff_eq]; exact hfa.2)
            rw [e1, e] at h4
            simp at h4
        · repeat (first | refine AWd_step hT rfl rfl rfl (by first | exact True.intro | omega | exact sd) ?_ | refine AWk_step hT rfl rfl (by first | exact True.intro | omega | exact sd) ?_ | refine AWk_step0 hT rfl (by first | exact True.intro | omega | exact sd) ?_ | refine AWd_nil ?_ | refine AWk_nil ?_ | refine AWd_gstep hT rfl rfl rfl rfl rfl (by intro hg; first | exact ⟨True.intro, True.intro⟩ | exact sg hg) ?_ | refine AWk_gstep hT rfl rfl rfl rfl (by intro hg; first | exact ⟨True.intro, True.intro⟩ | exact sg hg) ?_ | refine AW_seq ?_ | refine AW_region ?_ | refine AW_draw mixed (by kernel_rfl) ?_ | refine AW_block ?_ | refine AW_skip ?_ | refine AW_exit ?_ | refine AW_ret ?_)
          exact ⟨i + 1, by omega, by omega, ⟨.refl _, .refl _, .refl _, AV.le.eq (by show AV.d (.int .i64 (IntKind.i64.wrap ((i : Int) + 1))) = _; rw [hwr]), trivial⟩, HLe.refl _⟩
      · repeat (first | refine AWd_step hT rfl rfl rfl (by first | exact True.intro | omega | exact sd) ?_ | refine AWk_step hT rfl rfl (by first | exact True.intro | omega | exact sd) ?_ | refine AWk_step0 hT rfl (by first | exact True.intro | omega | exact sd) ?_ | refine AWd_nil ?_ | refine AWk_nil ?_ | refine AWd_gstep hT rfl rfl rfl rfl rfl (by intro hg; first | exact ⟨True.intro, True.intro⟩ | exact sg hg) ?_ | refine AWk_gstep hT rfl rfl rfl rfl (by intro hg; first | exact ⟨True.intro, True.intro⟩ | exact sg hg) ?_ | refine AW_seq ?_ | refine AW_region ?_ | refine AW_draw mixed (by kernel_rfl) ?_ | refine AW_block ?_ | refine AW_skip ?_ | refine AW_exit ?_ | refine AW_ret ?_)
        refine AWk_op (callS0 rfl rfl hFA rfl rfl rfl) rfl ?_
        repeat (first | refine AWd_step hT rfl rfl rfl (by first | exact True.intro | omega | exact sd) ?_ | refine AWk_step hT rfl rfl (by first | exact True.intro | omega | exact sd) ?_ | refine AWk_step0 hT rfl (by first | exact True.intro | omega | exact sd) ?_ | refine AWd_nil ?_ | refine AWk_nil ?_ | refine AWd_gstep hT rfl rfl rfl rfl rfl (by intro hg; first | exact ⟨True.intro, True.intro⟩ | exact sg hg) ?_ | refine AWk_gstep hT rfl rfl rfl rfl (by intro hg; first | exact ⟨True.intro, True.intro⟩ | exact sg hg) ?_ | refine AW_seq ?_ | refine AW_region ?_ | refine AW_draw mixed (by kernel_rfl) ?_ | refine AW_block ?_ | refine AW_skip ?_ | refine AW_exit ?_ | refine AW_ret ?_)
        refine AWk_op (callS0 rfl rfl awake_spec rfl rfl rfl) rfl ?_
        repeat (first | refine AWd_step hT rfl rfl rfl (by first | exact True.intro | omega | exact sd) ?_ | refine AWk_step hT rfl rfl (by first | exact True.intro | omega | exact sd) ?_ | refine AWk_step0 hT rfl (by first | exact True.intro | omega | exact sd) ?_ | refine AWd_nil ?_ | refine AWk_nil ?_ | refine AWd_gstep hT rfl rfl rfl rfl rfl (by intro hg; first | exact ⟨True.intro, True.intro⟩ | exact sg hg) ?_ | refine AWk_gstep hT rfl rfl rfl rfl (by intro hg; first | exact ⟨True.intro, True.intro⟩ | exact sg hg) ?_ | refine AW_seq ?_ | refine AW_region ?_ | refine AW_draw mixed (by kernel_rfl) ?_ | refine AW_block ?_ | refine AW_skip ?_ | refine AW_exit ?_ | refine AW_ret ?_)
        refine AWk_gop rfl rfl rfl (fun hg => ⟨by first | exact True.intro | exact ⟨hg, True.intro⟩ | exact ⟨hg, hg, True.intro⟩, callS0 rfl rfl hH rfl rfl rfl⟩) ?_
        repeat (first | refine AWd_step hT rfl rfl rfl (by first | exact True.intro | omega | exact sd) ?_ | refine AWk_step hT rfl rfl (by first | exact True.intro | omega | exact sd) ?_ | refine AWk_step0 hT rfl (by first | exact True.intro | omega | exact sd) ?_ | refine AWd_nil ?_ | refine AWk_nil ?_ | refine AWd_gstep hT rfl rfl rfl rfl rfl (by intro hg; first | exact ⟨True.intro, True.intro⟩ | exact sg hg) ?_ | refine AWk_gstep hT rfl rfl rfl rfl (by intro hg; first | exact ⟨True.intro, True.intro⟩ | exact sg hg) ?_ | refine AW_seq ?_ | refine AW_region ?_ | refine AW_draw mixed (by kernel_rfl) ?_ | refine AW_block ?_ | refine AW_skip ?_ | refine AW_exit ?_ | refine AW_ret ?_)
        refine ret_exact rfl (.refl _) rfl rfl rfl rfl ⟨?_, rfl⟩
        show AV.d (Dat.bool (true && fa != 0 && ((fa == 1) == ha))) = _
        have e : (fa == 1) = ha := Bool.eq_iff_iff.2 (by rw [beq_iff_eq]; exact hfa.2)
        rw [e]
        simp [hfa.1]
end Tdoc
/- 'PolicyForces' (traveldoclaw37.PolicyForces): whatever the input, the law returns true, and the input reads behind the call as it read before. No condition. -/
set_option linter.unusedVariables false
set_option linter.unusedSimpArgs false
namespace Go.Proofs.Ytofhpjcdecjejaa.policyForces
open Go.ChangeShapes Go.WideShapes Go.ChangeAt Go.RowKit Tdoc

theorem own : ownKnob Try.prog.godebug = none := by kernel_rfl
theorem laid : laidOutB Try.prog = true := by kernel_rfl
theorem hb : Try.prog.underlying 4 = some .bool := by kernel_rfl
theorem hi : Try.prog.underlying 3 = some (.int .i64) := by kernel_rfl
theorem his : Try.prog.underlying 34 = some (.slice 3) := by kernel_rfl
theorem hic : Try.prog.cellsOf 3 = 1 := by kernel_rfl

theorem contract (H : Type) (enc : TypeId × Value → H) (W : World) (base : Nat) (args : Array Value) (ds gs : List (DataW H)) (before : List MemPlace)
    (hval : ∀ (j : Nat) t v, Try.f5.params[j]? = some t → args[j]? = some v → Value.okWide Try.prog W .any base t v)
    (hW : DataW.Whole enc Try.prog Try.f5.params.toList Rows.policyForcesSpec.vars false W args.toList ds gs before) :
    Calls Try.prog 5 args W fun e W' => ∃ v, e = .returned v ∧ Rows.policyForcesSpec.post enc Try.prog Try.f5 false true false false W args v W' := by
  have hW' := hW
  obtain ⟨p, q, hA, hV, hbe, hfz, hnd⟩ := hW
  rw [Try.params5] at hA hval
  obtain ⟨v0, vs0, d0, ds0, p0, q0, hargs, rfl, rfl, h0, r0⟩ := trodAll_cons hA
  obtain ⟨v1, vs1, d1, ds1, p1, q1, rfl, rfl, rfl, h1, r1⟩ := trodAll_cons r0
  obtain ⟨v2, vs2, d2, ds2, p2, q2, rfl, rfl, rfl, h2, r2⟩ := trodAll_cons r1
  obtain ⟨rfl, rfl, rfl⟩ := trodAll_nil r2
  obtain rfl : args = #[v0, v1, v2] := by cases args; simp_all
  obtain ⟨rfl, rfl⟩ := trodVars_none hV
  obtain ⟨x0, l0, m0, e0⟩ := open_nums his hi hic (hval 0 _ v0 rfl rfl) h0
  obtain ⟨x1, l1, m1, e1⟩ := open_nums his hi hic (hval 1 _ v1 rfl rfl) h1
  obtain ⟨x2, l2, m2, e2⟩ := open_nums his hi hic (hval 2 _ v2 rfl rfl) h2
  refine (law_calls (fun g cs h => by simp [seatTab] at h) (policyForces_spec x0 l0 m0 x1 l1 m1 x2 l2 m2) rfl (fun j x v hx hv => ?_)).mono fun e W' ⟨he, hb'⟩ => ⟨_, he, law_post laid (by kernel_rfl) (by kernel_rfl) hb rfl hW' rfl hb'⟩
  match j, hx, hv with
  | 0, hx, hv => simp at hx hv; subst hx; subst hv; exact e0
  | 1, hx, hv => simp at hx hv; subst hx; subst hv; exact e1
  | 2, hx, hv => simp at hx hv; subst hx; subst hv; exact e2
  | j + 3, hx, hv => simp at hx

set_option maxRecDepth 100000 in
theorem lifted (os : Os) (started : os.Started) (H : Type) (enc : TypeId × Value → H) :
    ReturnsInHanded {} Try.checked os 5 .any (Rows.policyForcesSpec.pre6 enc Try.prog Try.f5 Rows.policyForcesRow.domain false) (Rows.policyForcesSpec.post enc Try.prog Try.f5 false true false false) := by
  refine returnsInHanded_of_change (C := Try.checked) (s := Rows.policyForcesSpec) own started (by kernel_rfl) Try.func5
    (ChangeSpec.witness6 (enc := enc) (C := Try.checked) (s := Rows.policyForcesSpec) (conds := Rows.policyForcesRow.domain) false ⟨#[], #[.slice none 0 0, .slice none 0 0, .slice none 0 0], []⟩ 8 (by kernel_rfl) (by kernel_rfl) (by kernel_rfl) (by kernel_rfl)) ?_
  intro W base args ds gs before hval hW _ _
  exact contract H enc W base args ds gs before hval hW

theorem over : Rows.policyForcesRow.holds Try.pinned (OpenSpec.ofChange Rows.policyForcesSpec) :=
  OpenClaim.holds_of_wide 5 Try.f5 rfl rfl rfl rfl rfl rfl rfl ⟨rfl, rfl, rfl, rfl, rfl⟩ rfl rfl rfl rfl rfl (by kernel_rfl) Try.func5 (by kernel_rfl)
    (of_decide_eq_true (by kernel_rfl)) (by unfold Func.isWrapper; first | (rw [if_pos (by decide +kernel)]; kernel_rfl) | (rw [if_neg (by decide +kernel)]; exact ⟨rfl, rfl⟩))
    (fun os started H enc _ => lifted os started H enc)

theorem proved : Rows.PolicyForcesSaid :=
  over
end Go.Proofs.Ytofhpjcdecjejaa.policyForces
