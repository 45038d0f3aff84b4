/- The reference's parser: names, and what is done at one word. -/
import Derived.Test.YtofhpjcdecjejaaK3
set_option linter.unusedVariables false
set_option linter.unusedSimpArgs false
namespace Tdoc
open Go Go.Proofs

abbrev Wd := List UInt8 × Nat
def encWs (l : List Wd) : List (List Dat) := l.map fun w => [.str w.1, .int .i64 w.2]
theorem encWs_length (l : List Wd) : (encWs l).length = l.length := by simp [encWs]

/-- The reference parser's state: where it is, where the text ends, and where the first wrong word is. -/
structure RS where
  i : Nat
  en : Int
  bad : Int

def rsr (ws : List Wd) : RS → List AV
  | ⟨i, en, bad⟩ => [.d (.sl 2 (encWs ws)), .d (.int .i64 i), .d (.int .i64 en), .d (.int .i64 bad)]

theorem low_rsr (k : Nat) (ws : List Wd) (s : RS) : lowL k (rsr ws s) = true := by cases s; rfl
theorem lowH_rsr (k : Nat) (ws : List Wd) (s : RS) : lowH k [.row (rsr ws s)] = true := by cases s; rfl

set_option maxRecDepth 100000 in
theorem find_spec (x : List UInt8) (l : List (List UInt8)) (s : List UInt8) (hl : l.length ≤ 1000000) :
    Spec Try.prog 25 [.d (.sl 1 (strsAV (x :: l))), .d (.str s)] [] (fun r h' => r = .d (.int .i64 (sIdx l s + 1)) ∧ h' = []) := by
  refine Spec_of_body hT Try.func25 rfl rfl rfl rfl ?_
  intro E hE
  have hlen : (strsAV (x :: l)).length = l.length + 1 := by simp [strsAV]
  repeat (first | refine AWd_step hT rfl rfl rfl (by first | exact True.intro | omega | exact sd) ?_ | refine AWk_step hT rfl rfl (by first | exact True.intro | omega | exact sd) ?_ | refine AWk_step0 hT rfl (by first | exact True.intro | omega | exact sd) ?_ | refine AWd_nil ?_ | refine AWk_nil ?_ | refine AWd_gstep hT rfl rfl rfl rfl rfl (by intro hg; first | exact ⟨True.intro, True.intro⟩ | exact sg hg) ?_ | refine AWk_gstep hT rfl rfl rfl rfl (by intro hg; first | exact ⟨True.intro, True.intro⟩ | exact sg hg) ?_ | refine AW_seq ?_ | refine AW_region ?_ | refine AW_draw mixed (by kernel_rfl) ?_ | refine AW_block ?_ | refine AW_skip ?_ | refine AW_exit ?_ | refine AW_ret ?_)
  refine AW_loopL (ι := Nat) (fun k => [(0, .d (.sl 1 (strsAV (x :: l)))), (1, .d (.str s)), (5, .d (.int .i64 ((k + 1 : Nat) : Int)))]) (fun _ => []) (fun k => k ≤ l.length ∧ ∀ j, (hj : j < k) → (hj2 : j < l.length) → l[j] ≠ s) (fun k => l.length - k) 0
    ⟨by omega, fun j hj => by omega⟩ ⟨.refl _, .refl _, .refl _, trivial⟩ (HLe.refl _) ?_
  intro k ⟨hk, hb⟩
  repeat (first | refine AWd_step hT rfl rfl rfl (by first | exact True.intro | omega | exact sd) ?_ | refine AWk_step hT rfl rfl (by first | exact True.intro | omega | exact sd) ?_ | refine AWk_step0 hT rfl (by first | exact True.intro | omega | exact sd) ?_ | refine AWd_nil ?_ | refine AWk_nil ?_ | refine AWd_gstep hT rfl rfl rfl rfl rfl (by intro hg; first | exact ⟨True.intro, True.intro⟩ | exact sg hg) ?_ | refine AWk_gstep hT rfl rfl rfl rfl (by intro hg; first | exact ⟨True.intro, True.intro⟩ | exact sg hg) ?_ | refine AW_seq ?_ | refine AW_region ?_ | refine AW_draw mixed (by kernel_rfl) ?_ | refine AW_block ?_ | refine AW_skip ?_ | refine AW_exit ?_ | refine AW_ret ?_)
  refine AW_condL rfl (fun h1 => ?_) (fun h1 => ?_)
  · have hlt : k < l.length := by rw [hlen] at h1; simpa using h1
    have hel : (strsAV (x :: l))[(((k + 1 : Nat) : Int)).toNat]? = some [.str l[k]] := by simp [strsAV, hlt]
    repeat (first | refine AWd_step hT rfl rfl rfl (by first | exact True.intro | omega | exact sd) ?_ | refine AWk_step hT rfl rfl (by first | exact True.intro | omega | exact sd) ?_ | refine AWk_step0 hT rfl (by first | exact True.intro | omega | exact sd) ?_ | refine AWd_nil ?_ | refine AWk_nil ?_ | refine AWd_gstep hT rfl rfl rfl rfl rfl (by intro hg; first | exact ⟨True.intro, True.intro⟩ | exact sg hg) ?_ | refine AWk_gstep hT rfl rfl rfl rfl (by intro hg; first | exact ⟨True.intro, True.intro⟩ | exact sg hg) ?_ | refine AW_seq ?_ | refine AW_region ?_ | refine AW_draw mixed (by kernel_rfl) ?_ | refine AW_block ?_ | refine AW_skip ?_ | refine AW_exit ?_ | refine AW_ret ?_)
    refine AWk_op (OpS_of_pure (indexAddr_ok hT rfl rfl rfl rfl (by omega) hel)) rfl ?_
    repeat (first | refine AWd_step hT rfl rfl rfl (by first | exact True.intro | omega | exact sd) ?_ | refine AWk_step hT rfl rfl (by first | exact True.intro | omega | exact sd) ?_ | refine AWk_step0 hT rfl (by first | exact True.intro | omega | exact sd) ?_ | refine AWd_nil ?_ | refine AWk_nil ?_ | refine AWd_gstep hT rfl rfl rfl rfl rfl (by intro hg; first | exact ⟨True.intro, True.intro⟩ | exact sg hg) ?_ | refine AWk_gstep hT rfl rfl rfl rfl (by intro hg; first | exact ⟨True.intro, True.intro⟩ | exact sg hg) ?_ | refine AW_seq ?_ | refine AW_region ?_ | refine AW_draw mixed (by kernel_rfl) ?_ | refine AW_block ?_ | refine AW_skip ?_ | refine AW_exit ?_ | refine AW_ret ?_)
    refine AW_condL rfl (fun h2 => ?_) (fun h2 => ?_)
    · have h2' : l[k] = s := by simpa using h2
      repeat (first | refine AWd_step hT rfl rfl rfl (by first | exact True.intro | omega | exact sd) ?_ | refine AWk_step hT rfl rfl (by first | exact True.intro | omega | exact sd) ?_ | refine AWk_step0 hT rfl (by first | exact True.intro | omega | exact sd) ?_ | refine AWd_nil ?_ | refine AWk_nil ?_ | refine AWd_gstep hT rfl rfl rfl rfl rfl (by intro hg; first | exact ⟨True.intro, True.intro⟩ | exact sg hg) ?_ | refine AWk_gstep hT rfl rfl rfl rfl (by intro hg; first | exact ⟨True.intro, True.intro⟩ | exact sg hg) ?_ | refine AW_seq ?_ | refine AW_region ?_ | refine AW_draw mixed (by kernel_rfl) ?_ | refine AW_block ?_ | refine AW_skip ?_ | refine AW_exit ?_ | refine AW_ret ?_)
      refine ret_exact rfl (.refl _) rfl rfl rfl rfl ⟨?_, rfl⟩
      show AV.d (.int .i64 ((k + 1 : Nat) : Int)) = _
      rw [sIdx_at hlt h2' (fun j hj => hb j hj (by omega))]; simp
    · have h2' : ¬ l[k] = s := by simpa using h2
      repeat (first | refine AWd_step hT rfl rfl rfl (by first | exact True.intro | omega | exact sd) ?_ | refine AWk_step hT rfl rfl (by first | exact True.intro | omega | exact sd) ?_ | refine AWk_step0 hT rfl (by first | exact True.intro | omega | exact sd) ?_ | refine AWd_nil ?_ | refine AWk_nil ?_ | refine AWd_gstep hT rfl rfl rfl rfl rfl (by intro hg; first | exact ⟨True.intro, True.intro⟩ | exact sg hg) ?_ | refine AWk_gstep hT rfl rfl rfl rfl (by intro hg; first | exact ⟨True.intro, True.intro⟩ | exact sg hg) ?_ | refine AW_seq ?_ | refine AW_region ?_ | refine AW_draw mixed (by kernel_rfl) ?_ | refine AW_block ?_ | refine AW_skip ?_ | refine AW_exit ?_ | refine AW_ret ?_)
      refine ⟨k + 1, ⟨by omega, fun j hj hj2 => ?_⟩, by omega, ⟨.refl _, .refl _, AV.le.eq ?_, trivial⟩, HLe.refl _⟩
      · by_cases hjk : j = k
        · subst hjk; exact h2'
        · exact hb j (by omega) hj2
      · show AV.d (.int .i64 (IntKind.i64.wrap (((k + 1 : Nat) : Int) + 1))) = _
        rw [wrap_id (by omega)]; rfl
  · have hge : k = l.length := by rw [hlen] at h1; simp at h1; omega
    repeat (first | refine AWd_step hT rfl rfl rfl (by first | exact True.intro | omega | exact sd) ?_ | refine AWk_step hT rfl rfl (by first | exact True.intro | omega | exact sd) ?_ | refine AWk_step0 hT rfl (by first | exact True.intro | omega | exact sd) ?_ | refine AWd_nil ?_ | refine AWk_nil ?_ | refine AWd_gstep hT rfl rfl rfl rfl rfl (by intro hg; first | exact ⟨True.intro, True.intro⟩ | exact sg hg) ?_ | refine AWk_gstep hT rfl rfl rfl rfl (by intro hg; first | exact ⟨True.intro, True.intro⟩ | exact sg hg) ?_ | refine AW_seq ?_ | refine AW_region ?_ | refine AW_draw mixed (by kernel_rfl) ?_ | refine AW_block ?_ | refine AW_skip ?_ | refine AW_exit ?_ | refine AW_ret ?_)
    refine ret_exact rfl (.refl _) rfl rfl rfl rfl ⟨?_, rfl⟩
    show AV.d (.int .i64 0) = _
    rw [sIdx_none (fun j hj => hb j (by omega) hj)]; rfl

theorem checks_spec : Spec Try.prog 75 [] [] (fun r h' => r = .d (.sl 1 (strsAV ([] :: chk))) ∧ h' = []) := by
  refine Spec_of_body hT Try.func75 rfl rfl rfl rfl ?_
  intro E hE
  repeat (first | refine AWd_step hT rfl rfl rfl (by first | exact True.intro | omega | exact sd) ?_ | refine AWk_step hT rfl rfl (by first | exact True.intro | omega | exact sd) ?_ | refine AWk_step0 hT rfl (by first | exact True.intro | omega | exact sd) ?_ | refine AWd_nil ?_ | refine AWk_nil ?_ | refine AWd_gstep hT rfl rfl rfl rfl rfl (by intro hg; first | exact ⟨True.intro, True.intro⟩ | exact sg hg) ?_ | refine AWk_gstep hT rfl rfl rfl rfl (by intro hg; first | exact ⟨True.intro, True.intro⟩ | exact sg hg) ?_ | refine AW_seq ?_ | refine AW_region ?_ | refine AW_draw mixed (by kernel_rfl) ?_ | refine AW_block ?_ | refine AW_skip ?_ | refine AW_exit ?_ | refine AW_ret ?_)
  exact ret_exact rfl AV.le.dat rfl rfl rfl rfl ⟨rfl, rfl⟩
theorem values_spec : Spec Try.prog 76 [] [] (fun r h' => r = .d (.sl 1 (strsAV ([] :: vls))) ∧ h' = []) := by
  refine Spec_of_body hT Try.func76 rfl rfl rfl rfl ?_
  intro E hE
  repeat (first | refine AWd_step hT rfl rfl rfl (by first | exact True.intro | omega | exact sd) ?_ | refine AWk_step hT rfl rfl (by first | exact True.intro | omega | exact sd) ?_ | refine AWk_step0 hT rfl (by first | exact True.intro | omega | exact sd) ?_ | refine AWd_nil ?_ | refine AWk_nil ?_ | refine AWd_gstep hT rfl rfl rfl rfl rfl (by intro hg; first | exact ⟨True.intro, True.intro⟩ | exact sg hg) ?_ | refine AWk_gstep hT rfl rfl rfl rfl (by intro hg; first | exact ⟨True.intro, True.intro⟩ | exact sg hg) ?_ | refine AW_seq ?_ | refine AW_region ?_ | refine AW_draw mixed (by kernel_rfl) ?_ | refine AW_block ?_ | refine AW_skip ?_ | refine AW_exit ?_ | refine AW_ret ?_)
  exact ret_exact rfl AV.le.dat rfl rfl rfl rfl ⟨rfl, rfl⟩
theorem verdicts_spec : Spec Try.prog 26 [] [] (fun r h' => r = .d (.sl 1 (strsAV ([] :: vds))) ∧ h' = []) := by
  refine Spec_of_body hT Try.func26 rfl rfl rfl rfl ?_
  intro E hE
  repeat (first | refine AWd_step hT rfl rfl rfl (by first | exact True.intro | omega | exact sd) ?_ | refine AWk_step hT rfl rfl (by first | exact True.intro | omega | exact sd) ?_ | refine AWk_step0 hT rfl (by first | exact True.intro | omega | exact sd) ?_ | refine AWd_nil ?_ | refine AWk_nil ?_ | refine AWd_gstep hT rfl rfl rfl rfl rfl (by intro hg; first | exact ⟨True.intro, True.intro⟩ | exact sg hg) ?_ | refine AWk_gstep hT rfl rfl rfl rfl (by intro hg; first | exact ⟨True.intro, True.intro⟩ | exact sg hg) ?_ | refine AW_seq ?_ | refine AW_region ?_ | refine AW_draw mixed (by kernel_rfl) ?_ | refine AW_block ?_ | refine AW_skip ?_ | refine AW_exit ?_ | refine AW_ret ?_)
  exact ret_exact rfl AV.le.dat rfl rfl rfl rfl ⟨rfl, rfl⟩

def peekR (ws : List Wd) (s : RS) : List UInt8 := match ws[s.i]? with
  | some w => w.1
  | none => []
def failR (ws : List Wd) (s : RS) : RS := if s.bad < 0 then { s with bad := match ws[s.i]? with
  | some w => w.2
  | none => s.en } else s
def takeR (ws : List Wd) (s : RS) (w : List UInt8) : RS := if s.bad < 0 ∧ peekR ws s ≠ w then { failR ws s with i := s.i + 1 } else { s with i := s.i + 1 }

set_option maxRecDepth 100000 in
theorem peek_spec (ws : List Wd) (s : RS) :
    Spec Try.prog 27 [.ptr 0 0] [.row (rsr ws s)] (fun r h' => r = .d (.str (peekR ws s)) ∧ h' = [.row (rsr ws s)]) := by
  have hlen := encWs_length ws
  obtain ⟨i, en, bad⟩ := s
  refine Spec_of_body hT Try.func27 rfl rfl rfl rfl ?_
  intro E hE
  unfold peekR
  repeat (first | refine AWd_step hT rfl rfl rfl (by first | exact True.intro | omega | exact sd) ?_ | refine AWk_step hT rfl rfl (by first | exact True.intro | omega | exact sd) ?_ | refine AWk_step0 hT rfl (by first | exact True.intro | omega | exact sd) ?_ | refine AWd_nil ?_ | refine AWk_nil ?_ | refine AWd_gstep hT rfl rfl rfl rfl rfl (by intro hg; first | exact ⟨True.intro, True.intro⟩ | exact sg hg) ?_ | refine AWk_gstep hT rfl rfl rfl rfl (by intro hg; first | exact ⟨True.intro, True.intro⟩ | exact sg hg) ?_ | refine AW_seq ?_ | refine AW_region ?_ | refine AW_draw mixed (by kernel_rfl) ?_ | refine AW_block ?_ | refine AW_skip ?_ | refine AW_exit ?_ | refine AW_ret ?_)
  refine AW_condL rfl (fun h1 => ?_) (fun h1 => ?_)
  · have h1' : ws.length ≤ i := by rw [hlen] at h1; simpa using h1
    rw [List.getElem?_eq_none h1']
    repeat (first | refine AWd_step hT rfl rfl rfl (by first | exact True.intro | omega | exact sd) ?_ | refine AWk_step hT rfl rfl (by first | exact True.intro | omega | exact sd) ?_ | refine AWk_step0 hT rfl (by first | exact True.intro | omega | exact sd) ?_ | refine AWd_nil ?_ | refine AWk_nil ?_ | refine AWd_gstep hT rfl rfl rfl rfl rfl (by intro hg; first | exact ⟨True.intro, True.intro⟩ | exact sg hg) ?_ | refine AWk_gstep hT rfl rfl rfl rfl (by intro hg; first | exact ⟨True.intro, True.intro⟩ | exact sg hg) ?_ | refine AW_seq ?_ | refine AW_region ?_ | refine AW_draw mixed (by kernel_rfl) ?_ | refine AW_block ?_ | refine AW_skip ?_ | refine AW_exit ?_ | refine AW_ret ?_)
    exact ret_exact rfl (.refl _) rfl rfl rfl rfl ⟨rfl, rfl⟩
  · have h1' : i < ws.length := by rw [hlen] at h1; simpa using h1
    have hel : (encWs ws)[((i : Int)).toNat]? = some [.str ws[i].1, .int .i64 ws[i].2] := by simp [encWs, h1']
    rw [List.getElem?_eq_getElem h1']
    repeat (first | refine AW_exit ?_ | refine AW_skip ?_)
    refine AW_seq ?_
    refine AW_drawG (fun i => bif Nat.beq i 3 || Nat.beq i 7 || Nat.beq i 10 then [0] else []) (fun i => []) mixed (by kernel_rfl) ?_
    repeat (first | refine AWg_load hT rfl rfl rfl rfl (by first | exact List.mem_cons_self | exact sm) rfl ?_ | refine AWg_pure hT (fun _ => rfl) rfl rfl (by first | exact True.intro | omega | exact sd) ?_ | refine AWg_store hT rfl rfl rfl (by first | exact List.mem_cons_self | exact sm) rfl ?_ | refine AWd_nil ?_)
    refine AWg_op (os := []) (fun k hk1 hk2 => OpS_of_pure (indexAddr_ok hT rfl rfl rfl rfl (by omega) hel)) rfl ?_
    repeat (first | refine AWg_load hT rfl rfl rfl rfl (by first | exact List.mem_cons_self | exact sm) rfl ?_ | refine AWg_pure hT (fun _ => rfl) rfl rfl (by first | exact True.intro | omega | exact sd) ?_ | refine AWg_store hT rfl rfl rfl (by first | exact List.mem_cons_self | exact sm) rfl ?_ | refine AWd_nil ?_)
    repeat (first | refine AWd_step hT rfl rfl rfl (by first | exact True.intro | omega | exact sd) ?_ | refine AWk_step hT rfl rfl (by first | exact True.intro | omega | exact sd) ?_ | refine AWk_step0 hT rfl (by first | exact True.intro | omega | exact sd) ?_ | refine AWd_nil ?_ | refine AWk_nil ?_ | refine AWd_gstep hT rfl rfl rfl rfl rfl (by intro hg; first | exact ⟨True.intro, True.intro⟩ | exact sg hg) ?_ | refine AWk_gstep hT rfl rfl rfl rfl (by intro hg; first | exact ⟨True.intro, True.intro⟩ | exact sg hg) ?_ | refine AW_seq ?_ | refine AW_region ?_ | refine AW_draw mixed (by kernel_rfl) ?_ | refine AW_block ?_ | refine AW_skip ?_ | refine AW_exit ?_ | refine AW_ret ?_)
    exact ret_exact rfl (.refl _) rfl rfl rfl rfl ⟨rfl, rfl⟩

set_option maxRecDepth 100000 in
theorem fail_spec (ws : List Wd) (s : RS) :
    Spec Try.prog 28 [.ptr 0 0] [.row (rsr ws s)] (fun r h' => r = .tup [] ∧ h' = [.row (rsr ws (failR ws s))]) := by
  have hlen := encWs_length ws
  obtain ⟨i, en, bad⟩ := s
  refine Spec_of_body hT Try.func28 rfl rfl (rs := []) rfl rfl ?_
  intro E hE
  unfold failR
  repeat (first | refine AWd_step hT rfl rfl rfl (by first | exact True.intro | omega | exact sd) ?_ | refine AWk_step hT rfl rfl (by first | exact True.intro | omega | exact sd) ?_ | refine AWk_step0 hT rfl (by first | exact True.intro | omega | exact sd) ?_ | refine AWd_nil ?_ | refine AWk_nil ?_ | refine AWd_gstep hT rfl rfl rfl rfl rfl (by intro hg; first | exact ⟨True.intro, True.intro⟩ | exact sg hg) ?_ | refine AWk_gstep hT rfl rfl rfl rfl (by intro hg; first | exact ⟨True.intro, True.intro⟩ | exact sg hg) ?_ | refine AW_seq ?_ | refine AW_region ?_ | refine AW_draw mixed (by kernel_rfl) ?_ | refine AW_block ?_ | refine AW_skip ?_ | refine AW_exit ?_ | refine AW_ret ?_)
  refine AW_condL rfl (fun h1 => ?_) (fun h1 => ?_)
  · have h1' : bad < 0 := by simpa using h1
    rw [if_pos h1']
    repeat (first | refine AWd_step hT rfl rfl rfl (by first | exact True.intro | omega | exact sd) ?_ | refine AWk_step hT rfl rfl (by first | exact True.intro | omega | exact sd) ?_ | refine AWk_step0 hT rfl (by first | exact True.intro | omega | exact sd) ?_ | refine AWd_nil ?_ | refine AWk_nil ?_ | refine AWd_gstep hT rfl rfl rfl rfl rfl (by intro hg; first | exact ⟨True.intro, True.intro⟩ | exact sg hg) ?_ | refine AWk_gstep hT rfl rfl rfl rfl (by intro hg; first | exact ⟨True.intro, True.intro⟩ | exact sg hg) ?_ | refine AW_seq ?_ | refine AW_region ?_ | refine AW_draw mixed (by kernel_rfl) ?_ | refine AW_block ?_ | refine AW_skip ?_ | refine AW_exit ?_ | refine AW_ret ?_)
    refine AW_condL rfl (fun h2 => ?_) (fun h2 => ?_)
    · have h2' : i < ws.length := by rw [hlen] at h2; simpa using h2
      have hel : (encWs ws)[((i : Int)).toNat]? = some [.str ws[i].1, .int .i64 ws[i].2] := by simp [encWs, h2']
      rw [List.getElem?_eq_getElem h2']
      refine AW_drawG (fun i => bif Nat.beq i 4 || Nat.beq i 8 || Nat.beq i 14 then [0] else []) (fun i => bif Nat.beq i 14 then [0] else []) mixed (by kernel_rfl) ?_
      repeat (first | refine AWg_load hT rfl rfl rfl rfl (by first | exact List.mem_cons_self | exact sm) rfl ?_ | refine AWg_pure hT (fun _ => rfl) rfl rfl (by first | exact True.intro | omega | exact sd) ?_ | refine AWg_store hT rfl rfl rfl (by first | exact List.mem_cons_self | exact sm) rfl ?_ | refine AWd_nil ?_)
      refine AWg_op (os := []) (fun k hk1 hk2 => OpS_of_pure (indexAddr_ok hT rfl rfl rfl rfl (by omega) hel)) rfl ?_
      repeat (first | refine AWg_load hT rfl rfl rfl rfl (by first | exact List.mem_cons_self | exact sm) rfl ?_ | refine AWg_pure hT (fun _ => rfl) rfl rfl (by first | exact True.intro | omega | exact sd) ?_ | refine AWg_store hT rfl rfl rfl (by first | exact List.mem_cons_self | exact sm) rfl ?_ | refine AWd_nil ?_)
      exact ret_exactN rfl (.refl _) rfl rfl rfl rfl ⟨rfl, rfl⟩
    · have h2' : ws.length ≤ i := by rw [hlen] at h2; simpa using h2
      rw [List.getElem?_eq_none h2']
      repeat (first | refine AWd_step hT rfl rfl rfl (by first | exact True.intro | omega | exact sd) ?_ | refine AWk_step hT rfl rfl (by first | exact True.intro | omega | exact sd) ?_ | refine AWk_step0 hT rfl (by first | exact True.intro | omega | exact sd) ?_ | refine AWd_nil ?_ | refine AWk_nil ?_ | refine AWd_gstep hT rfl rfl rfl rfl rfl (by intro hg; first | exact ⟨True.intro, True.intro⟩ | exact sg hg) ?_ | refine AWk_gstep hT rfl rfl rfl rfl (by intro hg; first | exact ⟨True.intro, True.intro⟩ | exact sg hg) ?_ | refine AW_seq ?_ | refine AW_region ?_ | refine AW_draw mixed (by kernel_rfl) ?_ | refine AW_block ?_ | refine AW_skip ?_ | refine AW_exit ?_ | refine AW_ret ?_)
      exact ret_exactN rfl (.refl _) rfl rfl rfl rfl ⟨rfl, rfl⟩
  · have h1' : ¬ bad < 0 := by simpa using h1
    rw [if_neg h1']
    repeat (first | refine AWd_step hT rfl rfl rfl (by first | exact True.intro | omega | exact sd) ?_ | refine AWk_step hT rfl rfl (by first | exact True.intro | omega | exact sd) ?_ | refine AWk_step0 hT rfl (by first | exact True.intro | omega | exact sd) ?_ | refine AWd_nil ?_ | refine AWk_nil ?_ | refine AWd_gstep hT rfl rfl rfl rfl rfl (by intro hg; first | exact ⟨True.intro, True.intro⟩ | exact sg hg) ?_ | refine AWk_gstep hT rfl rfl rfl rfl (by intro hg; first | exact ⟨True.intro, True.intro⟩ | exact sg hg) ?_ | refine AW_seq ?_ | refine AW_region ?_ | refine AW_draw mixed (by kernel_rfl) ?_ | refine AW_block ?_ | refine AW_skip ?_ | refine AW_exit ?_ | refine AW_ret ?_)
    exact ret_exactN rfl (.refl _) rfl rfl rfl rfl ⟨rfl, rfl⟩

set_option maxRecDepth 100000 in
theorem take_spec (ws : List Wd) (s : RS) (w : List UInt8) (hi : s.i ≤ 100000000) :
    Spec Try.prog 30 [.ptr 0 0, .d (.str w)] [.row (rsr ws s)] (fun r h' => r = .tup [] ∧ h' = [.row (rsr ws (takeR ws s w))]) := by
  have hpeek := peek_spec ws s
  have hfail := fail_spec ws s
  have hfi : (failR ws s).i = s.i := by unfold failR; split <;> rfl
  unfold takeR
  generalize peekR ws s = pk at hpeek ⊢
  generalize failR ws s = f at hfail hfi ⊢
  obtain ⟨i, en, bad⟩ := s
  obtain ⟨fi, fen, fbad⟩ := f
  simp only at hfi hi
  subst hfi
  have hwr : IntKind.i64.wrap ((fi : Int) + 1) = ((fi + 1 : Nat) : Int) := by rw [wrap_id (by omega)]; simp
  refine Spec_of_body hT Try.func30 rfl rfl rfl rfl ?_
  intro E hE
  repeat (first | refine AWd_step hT rfl rfl rfl (by first | exact True.intro | omega | exact sd) ?_ | refine AWk_step hT rfl rfl (by first | exact True.intro | omega | exact sd) ?_ | refine AWk_step0 hT rfl (by first | exact True.intro | omega | exact sd) ?_ | refine AWd_nil ?_ | refine AWk_nil ?_ | refine AWd_gstep hT rfl rfl rfl rfl rfl (by intro hg; first | exact ⟨True.intro, True.intro⟩ | exact sg hg) ?_ | refine AWk_gstep hT rfl rfl rfl rfl (by intro hg; first | exact ⟨True.intro, True.intro⟩ | exact sg hg) ?_ | refine AW_seq ?_ | refine AW_region ?_ | refine AW_draw mixed (by kernel_rfl) ?_ | refine AW_block ?_ | refine AW_skip ?_ | refine AW_exit ?_ | refine AW_ret ?_)
  refine AWk_gop rfl rfl rfl (fun hg => ⟨by first | exact True.intro | exact ⟨hg, True.intro⟩, callS1 rfl rfl hpeek [0] (by decide) rfl rfl rfl rfl rfl rfl rfl⟩) ?_
  repeat (first | refine AWd_step hT rfl rfl rfl (by first | exact True.intro | omega | exact sd) ?_ | refine AWk_step hT rfl rfl (by first | exact True.intro | omega | exact sd) ?_ | refine AWk_step0 hT rfl (by first | exact True.intro | omega | exact sd) ?_ | refine AWd_nil ?_ | refine AWk_nil ?_ | refine AWd_gstep hT rfl rfl rfl rfl rfl (by intro hg; first | exact ⟨True.intro, True.intro⟩ | exact sg hg) ?_ | refine AWk_gstep hT rfl rfl rfl rfl (by intro hg; first | exact ⟨True.intro, True.intro⟩ | exact sg hg) ?_ | refine AW_seq ?_ | refine AW_region ?_ | refine AW_draw mixed (by kernel_rfl) ?_ | refine AW_block ?_ | refine AW_skip ?_ | refine AW_exit ?_ | refine AW_ret ?_)
  refine AW_condL rfl (fun h1 => ?_) (fun h1 => ?_)
  · have h1' : bad < 0 ∧ pk ≠ w := by simpa using h1
    rw [if_pos h1']
    repeat (first | refine AWd_step hT rfl rfl rfl (by first | exact True.intro | omega | exact sd) ?_ | refine AWk_step hT rfl rfl (by first | exact True.intro | omega | exact sd) ?_ | refine AWk_step0 hT rfl (by first | exact True.intro | omega | exact sd) ?_ | refine AWd_nil ?_ | refine AWk_nil ?_ | refine AWd_gstep hT rfl rfl rfl rfl rfl (by intro hg; first | exact ⟨True.intro, True.intro⟩ | exact sg hg) ?_ | refine AWk_gstep hT rfl rfl rfl rfl (by intro hg; first | exact ⟨True.intro, True.intro⟩ | exact sg hg) ?_ | refine AW_seq ?_ | refine AW_region ?_ | refine AW_draw mixed (by kernel_rfl) ?_ | refine AW_block ?_ | refine AW_skip ?_ | refine AW_exit ?_ | refine AW_ret ?_)
    refine AWk_op (callS1 rfl rfl hfail [0] (by decide) rfl rfl rfl rfl (lowH_rsr 0 _ _) rfl rfl) rfl ?_
    repeat (first | refine AWd_step hT rfl rfl rfl (by first | exact True.intro | omega | exact sd) ?_ | refine AWk_step hT rfl rfl (by first | exact True.intro | omega | exact sd) ?_ | refine AWk_step0 hT rfl (by first | exact True.intro | omega | exact sd) ?_ | refine AWd_nil ?_ | refine AWk_nil ?_ | refine AWd_gstep hT rfl rfl rfl rfl rfl (by intro hg; first | exact ⟨True.intro, True.intro⟩ | exact sg hg) ?_ | refine AWk_gstep hT rfl rfl rfl rfl (by intro hg; first | exact ⟨True.intro, True.intro⟩ | exact sg hg) ?_ | refine AW_seq ?_ | refine AW_region ?_ | refine AW_draw mixed (by kernel_rfl) ?_ | refine AW_block ?_ | refine AW_skip ?_ | refine AW_exit ?_ | refine AW_ret ?_)
    refine ret_exactN rfl (.refl _) rfl rfl rfl rfl ⟨rfl, ?_⟩
    show [AObj.row [_, .d (.int .i64 (IntKind.i64.wrap ((fi : Int) + 1))), _, _]] = _
    rw [hwr]; rfl
  · have h1' : ¬ (bad < 0 ∧ pk ≠ w) := by simpa using h1
    rw [if_neg h1']
    repeat (first | refine AWd_step hT rfl rfl rfl (by first | exact True.intro | omega | exact sd) ?_ | refine AWk_step hT rfl rfl (by first | exact True.intro | omega | exact sd) ?_ | refine AWk_step0 hT rfl (by first | exact True.intro | omega | exact sd) ?_ | refine AWd_nil ?_ | refine AWk_nil ?_ | refine AWd_gstep hT rfl rfl rfl rfl rfl (by intro hg; first | exact ⟨True.intro, True.intro⟩ | exact sg hg) ?_ | refine AWk_gstep hT rfl rfl rfl rfl (by intro hg; first | exact ⟨True.intro, True.intro⟩ | exact sg hg) ?_ | refine AW_seq ?_ | refine AW_region ?_ | refine AW_draw mixed (by kernel_rfl) ?_ | refine AW_block ?_ | refine AW_skip ?_ | refine AW_exit ?_ | refine AW_ret ?_)
    refine ret_exactN rfl (.refl _) rfl rfl rfl rfl ⟨rfl, ?_⟩
    show [AObj.row [_, .d (.int .i64 (IntKind.i64.wrap ((fi : Int) + 1))), _, _]] = _
    rw [hwr]; rfl
end Tdoc
/- The reference's parser: the words of a text. -/
set_option linter.unusedVariables false
set_option linter.unusedSimpArgs false
namespace Tdoc
open Go Go.Proofs

/-- How many bytes a comment goes on. -/
def cmt : List UInt8 → Nat
  | [] => 0
  | c :: r => if c = 10 then 0 else cmt r + 1

theorem cmt_le : ∀ (l : List UInt8), cmt l ≤ l.length
  | [] => by simp [cmt]
  | c :: r => by have := cmt_le r; simp only [cmt, List.length_cons]; split <;> omega

def wordsR (text : List UInt8) : Nat → Nat → List Wd → List Wd × Int
  | 0, i, out => (out, -1)
  | m + 1, i, out => match text.drop i with
    | [] => (out, -1)
    | c :: r => if c = 32 ∨ c = 10 then wordsR text m (i + 1) out
      else if c = 35 then wordsR text m (i + cmt (c :: r)) out
      else if (c = 40 ∨ c = 41) ∨ c = 59 then wordsR text m (i + 1) (out ++ [([c], i)])
      else if isLow c = true then wordsR text m (i + lets (c :: r)) (out ++ [((c :: r).take (lets (c :: r)), i)])
      else (out, i)

theorem byteI {c d : UInt8} {k : Int} (hd : (d.toNat : Int) = k) : (c.toNat : Int) = k ↔ c = d :=
  ⟨fun h => UInt8.toNat_inj.1 (Int.ofNat_inj.1 (h.trans hd.symm)), fun h => by rw [h]; exact hd⟩

set_option maxHeartbeats 4000000 in
set_option maxRecDepth 100000 in
theorem words_spec (text : List UInt8) (hl : text.length ≤ 1000000) :
    Spec Try.prog 24 [.d (.str text)] [] (fun r h' => r = .tup [.d (.sl 2 (encWs (wordsR text (text.length + 1) 0 []).1)), .d (.int .i64 (wordsR text (text.length + 1) 0 []).2)] ∧ h' = []) := by
  refine Spec_of_body hT Try.func24 rfl rfl rfl rfl ?_
  intro E hE
  generalize hq : wordsR text (text.length + 1) 0 [] = q
  repeat (first | refine AWd_step hT rfl rfl rfl (by first | exact True.intro | omega | exact sd) ?_ | refine AWk_step hT rfl rfl (by first | exact True.intro | omega | exact sd) ?_ | refine AWk_step0 hT rfl (by first | exact True.intro | omega | exact sd) ?_ | refine AWd_nil ?_ | refine AWk_nil ?_ | refine AWd_gstep hT rfl rfl rfl rfl rfl (by intro hg; first | exact ⟨True.intro, True.intro⟩ | exact sg hg) ?_ | refine AWk_gstep hT rfl rfl rfl rfl (by intro hg; first | exact ⟨True.intro, True.intro⟩ | exact sg hg) ?_ | refine AW_seq ?_ | refine AW_region ?_ | refine AW_draw mixed (by kernel_rfl) ?_ | refine AW_block ?_ | refine AW_skip ?_ | refine AW_exit ?_ | refine AW_ret ?_)
  refine AW_room (AW_acquireAt 4 2 0 (es := []) (.inr ⟨rfl, rfl⟩) rfl ?_)
  refine AW_loopL (ι := Nat × List Wd) (fun x => [(0, .d (.str text)), (4, .sl 2 (encWs x.2) (.right 0)), (5, .d (.int .i64 x.1))]) (fun x => [.right 2 (encWs x.2).length])
    (fun x => x.1 ≤ text.length ∧ x.2.length ≤ x.1 ∧ ∃ m, text.length - x.1 < m ∧ wordsR text m x.1 x.2 = q) (fun x => text.length - x.1) (0, []) ⟨by simp, by simp, text.length + 1, by simp, hq⟩
    ⟨.refl _, .refl _, .refl _, trivial⟩ (HLe.refl _) ?_
  rintro ⟨i, out⟩ ⟨hi, ho, m, hm, hw⟩
  simp only at hi ho hm hw ⊢
  obtain ⟨m, rfl⟩ : ∃ m', m = m' + 1 := ⟨m - 1, by omega⟩
  rw [wordsR] at hw
  repeat (first | refine AWd_step hT rfl rfl rfl (by first | exact True.intro | omega | exact sd) ?_ | refine AWk_step hT rfl rfl (by first | exact True.intro | omega | exact sd) ?_ | refine AWk_step0 hT rfl (by first | exact True.intro | omega | exact sd) ?_ | refine AWd_nil ?_ | refine AWk_nil ?_ | refine AWd_gstep hT rfl rfl rfl rfl rfl (by intro hg; first | exact ⟨True.intro, True.intro⟩ | exact sg hg) ?_ | refine AWk_gstep hT rfl rfl rfl rfl (by intro hg; first | exact ⟨True.intro, True.intro⟩ | exact sg hg) ?_ | refine AW_seq ?_ | refine AW_region ?_ | refine AW_draw mixed (by kernel_rfl) ?_ | refine AW_block ?_ | refine AW_skip ?_ | refine AW_exit ?_ | refine AW_ret ?_)
  refine AW_condL rfl (fun h1 => ?_) (fun h1 => ?_)
  · have hlt : i < text.length := by simpa using h1
    have hd : text.drop i = text[i] :: text.drop (i + 1) := by simp
    have hat := strAt_get hlt
    have hwr : IntKind.i64.wrap ((i : Int) + 1) = ((i + 1 : Nat) : Int) := by rw [wrap_id (by omega)]; simp
    rw [hd] at hw
    simp only at hw
    repeat (first | refine AWd_step hT rfl rfl rfl (by first | exact True.intro | omega | exact sd) ?_ | refine AWk_step hT rfl rfl (by first | exact True.intro | omega | exact sd) ?_ | refine AWk_step0 hT rfl (by first | exact True.intro | omega | exact sd) ?_ | refine AWd_nil ?_ | refine AWk_nil ?_ | refine AWd_gstep hT rfl rfl rfl rfl rfl (by intro hg; first | exact ⟨True.intro, True.intro⟩ | exact sg hg) ?_ | refine AWk_gstep hT rfl rfl rfl rfl (by intro hg; first | exact ⟨True.intro, True.intro⟩ | exact sg hg) ?_ | refine AW_seq ?_ | refine AW_region ?_ | refine AW_draw mixed (by kernel_rfl) ?_ | refine AW_block ?_ | refine AW_skip ?_ | refine AW_exit ?_ | refine AW_ret ?_)
    refine AW_condL rfl (fun h2 => ?_) (fun h2 => ?_)
    · have hc : text[i] = 32 ∨ text[i] = 10 := by
        rw [hat] at h2; simp at h2; exact h2.imp (byteI rfl).1 (byteI rfl).1
      rw [if_pos hc] at hw
      repeat (first | refine AWd_step hT rfl rfl rfl (by first | exact True.intro | omega | exact sd) ?_ | refine AWk_step hT rfl rfl (by first | exact True.intro | omega | exact sd) ?_ | refine AWk_step0 hT rfl (by first | exact True.intro | omega | exact sd) ?_ | refine AWd_nil ?_ | refine AWk_nil ?_ | refine AWd_gstep hT rfl rfl rfl rfl rfl (by intro hg; first | exact ⟨True.intro, True.intro⟩ | exact sg hg) ?_ | refine AWk_gstep hT rfl rfl rfl rfl (by intro hg; first | exact ⟨True.intro, True.intro⟩ | exact sg hg) ?_ | refine AW_seq ?_ | refine AW_region ?_ | refine AW_draw mixed (by kernel_rfl) ?_ | refine AW_block ?_ | refine AW_skip ?_ | refine AW_exit ?_ | refine AW_ret ?_)
      exact ⟨(i + 1, out), ⟨by simp only; omega, by simp only; omega, m, by simp only; omega, hw⟩, by simp only; omega, ⟨.refl _, .refl _, AV.le.eq (by show AV.d (.int .i64 (IntKind.i64.wrap ((i : Int) + 1))) = _; rw [hwr]), trivial⟩, HLe.refl _⟩
    · have hc : ¬ (text[i] = 32 ∨ text[i] = 10) := by
        rintro (hc | hc) <;> rw [hat, hc] at h2 <;> simp at h2
      rw [if_neg hc] at hw
      repeat (first | refine AWd_step hT rfl rfl rfl (by first | exact True.intro | omega | exact sd) ?_ | refine AWk_step hT rfl rfl (by first | exact True.intro | omega | exact sd) ?_ | refine AWk_step0 hT rfl (by first | exact True.intro | omega | exact sd) ?_ | refine AWd_nil ?_ | refine AWk_nil ?_ | refine AWd_gstep hT rfl rfl rfl rfl rfl (by intro hg; first | exact ⟨True.intro, True.intro⟩ | exact sg hg) ?_ | refine AWk_gstep hT rfl rfl rfl rfl (by intro hg; first | exact ⟨True.intro, True.intro⟩ | exact sg hg) ?_ | refine AW_seq ?_ | refine AW_region ?_ | refine AW_draw mixed (by kernel_rfl) ?_ | refine AW_block ?_ | refine AW_skip ?_ | refine AW_exit ?_ | refine AW_ret ?_)
      refine AW_condL rfl (fun h3 => ?_) (fun h3 => ?_)
      · have hc3 : text[i] = 35 := by
          rw [hat] at h3; simp at h3; exact (byteI rfl).1 h3
        rw [if_pos hc3] at hw
        repeat (first | refine AWd_step hT rfl rfl rfl (by first | exact True.intro | omega | exact sd) ?_ | refine AWk_step hT rfl rfl (by first | exact True.intro | omega | exact sd) ?_ | refine AWk_step0 hT rfl (by first | exact True.intro | omega | exact sd) ?_ | refine AWd_nil ?_ | refine AWk_nil ?_ | refine AWd_gstep hT rfl rfl rfl rfl rfl (by intro hg; first | exact ⟨True.intro, True.intro⟩ | exact sg hg) ?_ | refine AWk_gstep hT rfl rfl rfl rfl (by intro hg; first | exact ⟨True.intro, True.intro⟩ | exact sg hg) ?_ | refine AW_seq ?_ | refine AW_region ?_ | refine AW_draw mixed (by kernel_rfl) ?_ | refine AW_block ?_ | refine AW_skip ?_ | refine AW_exit ?_ | refine AW_ret ?_)
        refine AW_loopL (ι := Nat) (fun e => [(0, .d (.str text)), (4, .sl 2 (encWs out) (.right 0)), (5, .d (.int .i64 e))]) (fun _ => [.right 2 (encWs out).length])
          (fun e => i ≤ e ∧ e ≤ text.length ∧ e + cmt (text.drop e) = i + cmt (text.drop i)) (fun e => text.length - e) i ⟨by omega, by omega, rfl⟩
          ⟨.refl _, .refl _, .refl _, trivial⟩ (HLe.refl _) ?_
        intro e ⟨he1, he2, he3⟩
        repeat (first | refine AWd_step hT rfl rfl rfl (by first | exact True.intro | omega | exact sd) ?_ | refine AWk_step hT rfl rfl (by first | exact True.intro | omega | exact sd) ?_ | refine AWk_step0 hT rfl (by first | exact True.intro | omega | exact sd) ?_ | refine AWd_nil ?_ | refine AWk_nil ?_ | refine AWd_gstep hT rfl rfl rfl rfl rfl (by intro hg; first | exact ⟨True.intro, True.intro⟩ | exact sg hg) ?_ | refine AWk_gstep hT rfl rfl rfl rfl (by intro hg; first | exact ⟨True.intro, True.intro⟩ | exact sg hg) ?_ | refine AW_seq ?_ | refine AW_region ?_ | refine AW_draw mixed (by kernel_rfl) ?_ | refine AW_block ?_ | refine AW_skip ?_ | refine AW_exit ?_ | refine AW_ret ?_)
        refine AW_condL rfl (fun h5 => ?_) (fun h5 => ?_)
        · have h5' : e < text.length ∧ ¬ strAt text e = 10 := by simpa using h5
          have hlt2 := h5'.1
          have hne : ¬ text[e] = 10 := by
            intro hc; apply h5'.2; rw [strAt_get hlt2, hc]; rfl
          have hd2 : text.drop e = text[e] :: text.drop (e + 1) := by simp
          have hwr2 : IntKind.i64.wrap ((e : Int) + 1) = ((e + 1 : Nat) : Int) := by rw [wrap_id (by omega)]; simp
          rw [hd2, cmt, if_neg hne] at he3
          repeat (first | refine AWd_step hT rfl rfl rfl (by first | exact True.intro | omega | exact sd) ?_ | refine AWk_step hT rfl rfl (by first | exact True.intro | omega | exact sd) ?_ | refine AWk_step0 hT rfl (by first | exact True.intro | omega | exact sd) ?_ | refine AWd_nil ?_ | refine AWk_nil ?_ | refine AWd_gstep hT rfl rfl rfl rfl rfl (by intro hg; first | exact ⟨True.intro, True.intro⟩ | exact sg hg) ?_ | refine AWk_gstep hT rfl rfl rfl rfl (by intro hg; first | exact ⟨True.intro, True.intro⟩ | exact sg hg) ?_ | refine AW_seq ?_ | refine AW_region ?_ | refine AW_draw mixed (by kernel_rfl) ?_ | refine AW_block ?_ | refine AW_skip ?_ | refine AW_exit ?_ | refine AW_ret ?_)
          exact ⟨e + 1, ⟨by omega, by omega, by omega⟩, by omega, ⟨.refl _, .refl _, AV.le.eq (by show AV.d (.int .i64 (IntKind.i64.wrap ((e : Int) + 1))) = _; rw [hwr2]), trivial⟩, HLe.refl _⟩
        · have h5' : e < text.length → strAt text e = 10 := by
            intro hlt2; simpa [hlt2] using h5
          have hz : cmt (text.drop e) = 0 := by
            by_cases hlt2 : e < text.length
            · have h6 := h5' hlt2
              have hc10 : text[e] = 10 := by rw [strAt_get hlt2] at h6; exact (byteI rfl).1 h6
              have hd2 : text.drop e = text[e] :: text.drop (e + 1) := by simp
              rw [hd2, cmt, if_pos hc10]
            · rw [List.drop_eq_nil_of_le (by omega)]; rfl
          rw [← hd] at hw
          have he : e = i + cmt (text.drop i) := by omega
          have hpos : 0 < cmt (text.drop i) := by rw [hd, cmt, if_neg (by rw [hc3]; decide)]; omega
          repeat (first | refine AWd_step hT rfl rfl rfl (by first | exact True.intro | omega | exact sd) ?_ | refine AWk_step hT rfl rfl (by first | exact True.intro | omega | exact sd) ?_ | refine AWk_step0 hT rfl (by first | exact True.intro | omega | exact sd) ?_ | refine AWd_nil ?_ | refine AWk_nil ?_ | refine AWd_gstep hT rfl rfl rfl rfl rfl (by intro hg; first | exact ⟨True.intro, True.intro⟩ | exact sg hg) ?_ | refine AWk_gstep hT rfl rfl rfl rfl (by intro hg; first | exact ⟨True.intro, True.intro⟩ | exact sg hg) ?_ | refine AW_seq ?_ | refine AW_region ?_ | refine AW_draw mixed (by kernel_rfl) ?_ | refine AW_block ?_ | refine AW_skip ?_ | refine AW_exit ?_ | refine AW_ret ?_)
          subst he
          exact ⟨(i + cmt (text.drop i), out), ⟨by simp only; omega, by simp only; omega, m, by simp only; omega, hw⟩, by simp only; omega, ⟨.refl _, .refl _, .refl _, trivial⟩, HLe.refl _⟩
      · have hc3 : ¬ text[i] = 35 := by
          intro hc; rw [hat, hc] at h3; simp at h3
        rw [if_neg hc3] at hw
        repeat (first | refine AWd_step hT rfl rfl rfl (by first | exact True.intro | omega | exact sd) ?_ | refine AWk_step hT rfl rfl (by first | exact True.intro | omega | exact sd) ?_ | refine AWk_step0 hT rfl (by first | exact True.intro | omega | exact sd) ?_ | refine AWd_nil ?_ | refine AWk_nil ?_ | refine AWd_gstep hT rfl rfl rfl rfl rfl (by intro hg; first | exact ⟨True.intro, True.intro⟩ | exact sg hg) ?_ | refine AWk_gstep hT rfl rfl rfl rfl (by intro hg; first | exact ⟨True.intro, True.intro⟩ | exact sg hg) ?_ | refine AW_seq ?_ | refine AW_region ?_ | refine AW_draw mixed (by kernel_rfl) ?_ | refine AW_block ?_ | refine AW_skip ?_ | refine AW_exit ?_ | refine AW_ret ?_)
        refine AW_condL rfl (fun h4 => ?_) (fun h4 => ?_)
        · have hc4 : (text[i] = 40 ∨ text[i] = 41) ∨ text[i] = 59 := by
            rw [hat] at h4; simp at h4; exact h4.imp (fun h => h.imp (byteI rfl).1 (byteI rfl).1) (byteI rfl).1
          rw [if_pos hc4] at hw
          have hcut : cutL text (i : Int) ((i + 1 : Nat) : Int) = [text[i]] := by
            show (text.drop i).take (i + 1 - i) = _
            rw [Nat.add_sub_cancel_left, hd]; rfl
          have hcut' : cutL text (i : Int) (IntKind.i64.wrap ((i : Int) + 1)) = [text[i]] := by rw [hwr, hcut]
          repeat (first | refine AWd_step hT rfl rfl rfl (by first | exact True.intro | omega | exact sd) ?_ | refine AWk_step hT rfl rfl (by first | exact True.intro | omega | exact sd) ?_ | refine AWk_step0 hT rfl (by first | exact True.intro | omega | exact sd) ?_ | refine AWd_nil ?_ | refine AWk_nil ?_ | refine AWd_gstep hT rfl rfl rfl rfl rfl (by intro hg; first | exact ⟨True.intro, True.intro⟩ | exact sg hg) ?_ | refine AWk_gstep hT rfl rfl rfl rfl (by intro hg; first | exact ⟨True.intro, True.intro⟩ | exact sg hg) ?_ | refine AW_seq ?_ | refine AW_region ?_ | refine AW_draw mixed (by kernel_rfl) ?_ | refine AW_block ?_ | refine AW_skip ?_ | refine AW_exit ?_ | refine AW_ret ?_)
          refine AWk_op (append_right (i := 0) hT rfl rfl rfl rfl rfl rfl (by show ((encWs out).length + 1) * (24 + 1) ≤ 140737488355328; rw [encWs_length]; omega)) rfl ?_
          repeat (first | refine AWd_step hT rfl rfl rfl (by first | exact True.intro | omega | exact sd) ?_ | refine AWk_step hT rfl rfl (by first | exact True.intro | omega | exact sd) ?_ | refine AWk_step0 hT rfl (by first | exact True.intro | omega | exact sd) ?_ | refine AWd_nil ?_ | refine AWk_nil ?_ | refine AWd_gstep hT rfl rfl rfl rfl rfl (by intro hg; first | exact ⟨True.intro, True.intro⟩ | exact sg hg) ?_ | refine AWk_gstep hT rfl rfl rfl rfl (by intro hg; first | exact ⟨True.intro, True.intro⟩ | exact sg hg) ?_ | refine AW_seq ?_ | refine AW_region ?_ | refine AW_draw mixed (by kernel_rfl) ?_ | refine AW_block ?_ | refine AW_skip ?_ | refine AW_exit ?_ | refine AW_ret ?_)
          refine ⟨(i + 1, out ++ [([text[i]], i)]), ⟨by simp only; omega, by simp only [List.length_append, List.length_cons, List.length_nil]; omega, m, by simp only; omega, hw⟩, by simp only; omega, ⟨.refl _, AV.le.eq ?_, AV.le.eq (by show AV.d (.int .i64 (IntKind.i64.wrap ((i : Int) + 1))) = _; rw [hwr]), trivial⟩, ?_⟩
          · show AV.sl 2 (encWs out ++ [[.str (cutL text (i : Int) (IntKind.i64.wrap ((i : Int) + 1))), .int .i64 i]]) (.right 0) = _
            rw [hcut']; simp [encWs]
          · exact ⟨⟨rfl, by simp [encWs]⟩, trivial⟩
        · have hc4 : ¬ ((text[i] = 40 ∨ text[i] = 41) ∨ text[i] = 59) := by
            rintro ((hc | hc) | hc) <;> rw [hat, hc] at h4 <;> simp at h4
          rw [if_neg hc4] at hw
          repeat (first | refine AWd_step hT rfl rfl rfl (by first | exact True.intro | omega | exact sd) ?_ | refine AWk_step hT rfl rfl (by first | exact True.intro | omega | exact sd) ?_ | refine AWk_step0 hT rfl (by first | exact True.intro | omega | exact sd) ?_ | refine AWd_nil ?_ | refine AWk_nil ?_ | refine AWd_gstep hT rfl rfl rfl rfl rfl (by intro hg; first | exact ⟨True.intro, True.intro⟩ | exact sg hg) ?_ | refine AWk_gstep hT rfl rfl rfl rfl (by intro hg; first | exact ⟨True.intro, True.intro⟩ | exact sg hg) ?_ | refine AW_seq ?_ | refine AW_region ?_ | refine AW_draw mixed (by kernel_rfl) ?_ | refine AW_block ?_ | refine AW_skip ?_ | refine AW_exit ?_ | refine AW_ret ?_)
          refine AW_condL rfl (fun h6 => ?_) (fun h6 => ?_)
          · have hc6 : isLow text[i] = true := by
              rw [hat] at h6; simp at h6; simp [isLow]; omega
            rw [if_pos hc6] at hw
            repeat (first | refine AWd_step hT rfl rfl rfl (by first | exact True.intro | omega | exact sd) ?_ | refine AWk_step hT rfl rfl (by first | exact True.intro | omega | exact sd) ?_ | refine AWk_step0 hT rfl (by first | exact True.intro | omega | exact sd) ?_ | refine AWd_nil ?_ | refine AWk_nil ?_ | refine AWd_gstep hT rfl rfl rfl rfl rfl (by intro hg; first | exact ⟨True.intro, True.intro⟩ | exact sg hg) ?_ | refine AWk_gstep hT rfl rfl rfl rfl (by intro hg; first | exact ⟨True.intro, True.intro⟩ | exact sg hg) ?_ | refine AW_seq ?_ | refine AW_region ?_ | refine AW_draw mixed (by kernel_rfl) ?_ | refine AW_block ?_ | refine AW_skip ?_ | refine AW_exit ?_ | refine AW_ret ?_)
            refine AW_loopL (ι := Nat) (fun e => [(0, .d (.str text)), (4, .sl 2 (encWs out) (.right 0)), (5, .d (.int .i64 i)), (7, .d (.int .i64 e))]) (fun _ => [.right 2 (encWs out).length])
              (fun e => i ≤ e ∧ e ≤ text.length ∧ e + lets (text.drop e) = i + lets (text.drop i)) (fun e => text.length - e) i ⟨by omega, by omega, rfl⟩
              ⟨.refl _, .refl _, .refl _, .refl _, trivial⟩ (HLe.refl _) ?_
            intro e ⟨he1, he2, he3⟩
            repeat (first | refine AWd_step hT rfl rfl rfl (by first | exact True.intro | omega | exact sd) ?_ | refine AWk_step hT rfl rfl (by first | exact True.intro | omega | exact sd) ?_ | refine AWk_step0 hT rfl (by first | exact True.intro | omega | exact sd) ?_ | refine AWd_nil ?_ | refine AWk_nil ?_ | refine AWd_gstep hT rfl rfl rfl rfl rfl (by intro hg; first | exact ⟨True.intro, True.intro⟩ | exact sg hg) ?_ | refine AWk_gstep hT rfl rfl rfl rfl (by intro hg; first | exact ⟨True.intro, True.intro⟩ | exact sg hg) ?_ | refine AW_seq ?_ | refine AW_region ?_ | refine AW_draw mixed (by kernel_rfl) ?_ | refine AW_block ?_ | refine AW_skip ?_ | refine AW_exit ?_ | refine AW_ret ?_)
            refine AW_condL rfl (fun h7 => ?_) (fun h7 => ?_)
            · have h7' : e < text.length ∧ 97 ≤ strAt text e ∧ strAt text e ≤ 122 := by simpa [and_assoc] using h7
              have hlt2 := h7'.1
              have hd2 : text.drop e = text[e] :: text.drop (e + 1) := by simp
              have hwr2 : IntKind.i64.wrap ((e : Int) + 1) = ((e + 1 : Nat) : Int) := by rw [wrap_id (by omega)]; simp
              have hlow : isLow text[e] = true := by rw [strAt_get hlt2] at h7'; simp [isLow]; omega
              rw [hd2, lets, if_pos hlow] at he3
              repeat (first | refine AWd_step hT rfl rfl rfl (by first | exact True.intro | omega | exact sd) ?_ | refine AWk_step hT rfl rfl (by first | exact True.intro | omega | exact sd) ?_ | refine AWk_step0 hT rfl (by first | exact True.intro | omega | exact sd) ?_ | refine AWd_nil ?_ | refine AWk_nil ?_ | refine AWd_gstep hT rfl rfl rfl rfl rfl (by intro hg; first | exact ⟨True.intro, True.intro⟩ | exact sg hg) ?_ | refine AWk_gstep hT rfl rfl rfl rfl (by intro hg; first | exact ⟨True.intro, True.intro⟩ | exact sg hg) ?_ | refine AW_seq ?_ | refine AW_region ?_ | refine AW_draw mixed (by kernel_rfl) ?_ | refine AW_block ?_ | refine AW_skip ?_ | refine AW_exit ?_ | refine AW_ret ?_)
              exact ⟨e + 1, ⟨by omega, by omega, by omega⟩, by omega, ⟨.refl _, .refl _, .refl _, AV.le.eq (by show AV.d (.int .i64 (IntKind.i64.wrap ((e : Int) + 1))) = _; rw [hwr2]), trivial⟩, HLe.refl _⟩
            · have hend : lets (text.drop e) = 0 := by
                by_cases hlt2 : e < text.length
                · have hd2 : text.drop e = text[e] :: text.drop (e + 1) := by simp
                  have : ¬ isLow text[e] = true := by
                    intro hh
                    rw [strAt_get hlt2] at h7
                    simp [isLow] at hh
                    simp [hlt2, hh] at h7
                    omega
                  rw [hd2, lets, if_neg this]
                · rw [List.drop_eq_nil_of_le (by omega)]; rfl
              rw [← hd] at hw
              have he : e = i + lets (text.drop i) := by omega
              have hpos : 0 < lets (text.drop i) := by rw [hd, lets, if_pos hc6]; omega
              have hcut : cutL text (i : Int) ((i + lets (text.drop i) : Nat) : Int) = (text.drop i).take (lets (text.drop i)) := by
                show (text.drop i).take (i + lets (text.drop i) - i) = _
                rw [Nat.add_sub_cancel_left]
              repeat (first | refine AWd_step hT rfl rfl rfl (by first | exact True.intro | omega | exact sd) ?_ | refine AWk_step hT rfl rfl (by first | exact True.intro | omega | exact sd) ?_ | refine AWk_step0 hT rfl (by first | exact True.intro | omega | exact sd) ?_ | refine AWd_nil ?_ | refine AWk_nil ?_ | refine AWd_gstep hT rfl rfl rfl rfl rfl (by intro hg; first | exact ⟨True.intro, True.intro⟩ | exact sg hg) ?_ | refine AWk_gstep hT rfl rfl rfl rfl (by intro hg; first | exact ⟨True.intro, True.intro⟩ | exact sg hg) ?_ | refine AW_seq ?_ | refine AW_region ?_ | refine AW_draw mixed (by kernel_rfl) ?_ | refine AW_block ?_ | refine AW_skip ?_ | refine AW_exit ?_ | refine AW_ret ?_)
              subst he
              refine AWk_op (append_right (i := 0) hT rfl rfl rfl rfl rfl rfl (by show ((encWs out).length + 1) * (24 + 1) ≤ 140737488355328; rw [encWs_length]; omega)) rfl ?_
              repeat (first | refine AWd_step hT rfl rfl rfl (by first | exact True.intro | omega | exact sd) ?_ | refine AWk_step hT rfl rfl (by first | exact True.intro | omega | exact sd) ?_ | refine AWk_step0 hT rfl (by first | exact True.intro | omega | exact sd) ?_ | refine AWd_nil ?_ | refine AWk_nil ?_ | refine AWd_gstep hT rfl rfl rfl rfl rfl (by intro hg; first | exact ⟨True.intro, True.intro⟩ | exact sg hg) ?_ | refine AWk_gstep hT rfl rfl rfl rfl (by intro hg; first | exact ⟨True.intro, True.intro⟩ | exact sg hg) ?_ | refine AW_seq ?_ | refine AW_region ?_ | refine AW_draw mixed (by kernel_rfl) ?_ | refine AW_block ?_ | refine AW_skip ?_ | refine AW_exit ?_ | refine AW_ret ?_)
              refine ⟨(i + lets (text.drop i), out ++ [((text.drop i).take (lets (text.drop i)), i)]), ⟨by simp only; omega, by simp only [List.length_append, List.length_cons, List.length_nil]; omega, m, by simp only; omega, hw⟩, by simp only; omega, ⟨.refl _, AV.le.eq ?_, .refl _, trivial⟩, ?_⟩
              · show AV.sl 2 (encWs out ++ [[.str (cutL text (i : Int) ((i + lets (text.drop i) : Nat) : Int)), .int .i64 i]]) (.right 0) = _
                rw [hcut]; simp [encWs]
              · exact ⟨⟨rfl, by simp [encWs]⟩, trivial⟩
          · have hc6 : ¬ isLow text[i] = true := by
              intro hc; rw [hat] at h6; simp [isLow] at hc; simp at h6; omega
            rw [if_neg hc6] at hw
            repeat (first | refine AWd_step hT rfl rfl rfl (by first | exact True.intro | omega | exact sd) ?_ | refine AWk_step hT rfl rfl (by first | exact True.intro | omega | exact sd) ?_ | refine AWk_step0 hT rfl (by first | exact True.intro | omega | exact sd) ?_ | refine AWd_nil ?_ | refine AWk_nil ?_ | refine AWd_gstep hT rfl rfl rfl rfl rfl (by intro hg; first | exact ⟨True.intro, True.intro⟩ | exact sg hg) ?_ | refine AWk_gstep hT rfl rfl rfl rfl (by intro hg; first | exact ⟨True.intro, True.intro⟩ | exact sg hg) ?_ | refine AW_seq ?_ | refine AW_region ?_ | refine AW_draw mixed (by kernel_rfl) ?_ | refine AW_block ?_ | refine AW_skip ?_ | refine AW_exit ?_ | refine AW_ret ?_)
            refine ret_exact (r := .tup [.d (.sl 2 (encWs out)), .d (.int .i64 i)]) rfl (AV.le.tup ⟨AV.le.dat, .refl _, trivial⟩) rfl rfl rfl rfl ⟨?_, rfl⟩
            rw [← hw]
  · have hge : i = text.length := by simp at h1; omega
    rw [List.drop_eq_nil_of_le (by omega)] at hw
    repeat (first | refine AWd_step hT rfl rfl rfl (by first | exact True.intro | omega | exact sd) ?_ | refine AWk_step hT rfl rfl (by first | exact True.intro | omega | exact sd) ?_ | refine AWk_step0 hT rfl (by first | exact True.intro | omega | exact sd) ?_ | refine AWd_nil ?_ | refine AWk_nil ?_ | refine AWd_gstep hT rfl rfl rfl rfl rfl (by intro hg; first | exact ⟨True.intro, True.intro⟩ | exact sg hg) ?_ | refine AWk_gstep hT rfl rfl rfl rfl (by intro hg; first | exact ⟨True.intro, True.intro⟩ | exact sg hg) ?_ | refine AW_seq ?_ | refine AW_region ?_ | refine AW_draw mixed (by kernel_rfl) ?_ | refine AW_block ?_ | refine AW_skip ?_ | refine AW_exit ?_ | refine AW_ret ?_)
    refine ret_exact (r := .tup [.d (.sl 2 (encWs out)), .d (.int .i64 (-1))]) rfl (AV.le.tup ⟨AV.le.dat, .refl _, trivial⟩) rfl rfl rfl rfl ⟨?_, rfl⟩
    rw [← hw]
end Tdoc
/- The reference's parser: conditions as one. -/
set_option linter.unusedVariables false
set_option linter.unusedSimpArgs false
namespace Tdoc
open Go Go.Proofs

def flatL (kind : Int) (l : List Cond) : List Cond := l.flatMap (flatC kind)
def joinR (kind : Int) : List Cond → Cond
  | [c] => c
  | l => .mk kind 0 0 (flatL kind l)

theorem flatL_append (kind : Int) (a b : List Cond) : flatL kind (a ++ b) = flatL kind a ++ flatL kind b := by simp [flatL]
theorem flatL_one (kind : Int) (c : Cond) : flatL kind [c] = flatC kind c := by simp [flatL]
theorem flatL_take_le (kind : Int) (l : List Cond) (k : Nat) : (flatL kind (l.take k)).length ≤ (flatL kind l).length := by
  have h : flatL kind l = flatL kind (l.take k) ++ flatL kind (l.drop k) := by rw [← flatL_append, List.take_append_drop]
  rw [h, List.length_append]; omega
theorem flatL_take_succ (kind : Int) {l : List Cond} {k : Nat} (hk : k < l.length) : flatL kind (l.take (k + 1)) = flatL kind (l.take k) ++ flatC kind l[k] := by
  rw [List.take_succ_eq_append_getElem hk, flatL_append, flatL_one]

set_option maxHeartbeats 4000000 in
set_option maxRecDepth 100000 in
theorem join_spec (kind : Int) (l : List Cond) (hl : l.length ≤ 4000000) (hf : (flatL kind l).length ≤ 4000000) :
    Spec Try.prog 49 [.d (.int .i64 kind), .d (.sl 4 (encCs l))] [] (fun r h' => r = cAV (joinR kind l) ∧ h' = []) := by
  refine Spec_of_body hT Try.func49 rfl rfl rfl rfl ?_
  intro E hE
  have hlen := encCs_length l
  repeat (first | refine AWd_step hT rfl rfl rfl (by first | exact True.intro | omega | exact sd) ?_ | refine AWk_step hT rfl rfl (by first | exact True.intro | omega | exact sd) ?_ | refine AWk_step0 hT rfl (by first | exact True.intro | omega | exact sd) ?_ | refine AWd_nil ?_ | refine AWk_nil ?_ | refine AWd_gstep hT rfl rfl rfl rfl rfl (by intro hg; first | exact ⟨True.intro, True.intro⟩ | exact sg hg) ?_ | refine AWk_gstep hT rfl rfl rfl rfl (by intro hg; first | exact ⟨True.intro, True.intro⟩ | exact sg hg) ?_ | refine AW_seq ?_ | refine AW_region ?_ | refine AW_draw mixed (by kernel_rfl) ?_ | refine AW_block ?_ | refine AW_skip ?_ | refine AW_exit ?_ | refine AW_ret ?_)
  refine AW_condL rfl (fun h1 => ?_) (fun h1 => ?_)
  · have h1' : l.length = 1 := by rw [hlen] at h1; simp at h1; omega
    obtain ⟨⟨ck, cc, cv, kids⟩, rfl⟩ : ∃ c, l = [c] := List.length_eq_one_iff.1 h1'
    repeat (first | refine AWd_step hT rfl rfl rfl (by first | exact True.intro | omega | exact sd) ?_ | refine AWk_step hT rfl rfl (by first | exact True.intro | omega | exact sd) ?_ | refine AWk_step0 hT rfl (by first | exact True.intro | omega | exact sd) ?_ | refine AWd_nil ?_ | refine AWk_nil ?_ | refine AWd_gstep hT rfl rfl rfl rfl rfl (by intro hg; first | exact ⟨True.intro, True.intro⟩ | exact sg hg) ?_ | refine AWk_gstep hT rfl rfl rfl rfl (by intro hg; first | exact ⟨True.intro, True.intro⟩ | exact sg hg) ?_ | refine AW_seq ?_ | refine AW_region ?_ | refine AW_draw mixed (by kernel_rfl) ?_ | refine AW_block ?_ | refine AW_skip ?_ | refine AW_exit ?_ | refine AW_ret ?_)
    have hel : (encCs [.mk ck cc cv kids])[((0 : Int)).toNat]? = some [.int .i64 ck, .int .i64 cc, .int .i64 cv, .sl 4 (encCs kids)] := by simp [encCs, encC]
    refine AWk_op (OpS_of_pure (indexAddr_ok hT rfl rfl rfl rfl (by decide) hel)) rfl ?_
    repeat (first | refine AWd_step hT rfl rfl rfl (by first | exact True.intro | omega | exact sd) ?_ | refine AWk_step hT rfl rfl (by first | exact True.intro | omega | exact sd) ?_ | refine AWk_step0 hT rfl (by first | exact True.intro | omega | exact sd) ?_ | refine AWd_nil ?_ | refine AWk_nil ?_ | refine AWd_gstep hT rfl rfl rfl rfl rfl (by intro hg; first | exact ⟨True.intro, True.intro⟩ | exact sg hg) ?_ | refine AWk_gstep hT rfl rfl rfl rfl (by intro hg; first | exact ⟨True.intro, True.intro⟩ | exact sg hg) ?_ | refine AW_seq ?_ | refine AW_region ?_ | refine AW_draw mixed (by kernel_rfl) ?_ | refine AW_block ?_ | refine AW_skip ?_ | refine AW_exit ?_ | refine AW_ret ?_)
    exact ret_exact (r := cAV (.mk ck cc cv kids)) rfl (.refl _) rfl rfl rfl rfl ⟨rfl, rfl⟩
  · have h1' : l.length ≠ 1 := by rw [hlen] at h1; simp at h1; omega
    have hj : joinR kind l = .mk kind 0 0 (flatL kind l) := by
      unfold joinR; split
      · simp at h1'
      · rfl
    rw [hj]
    repeat (first | refine AWd_step hT rfl rfl rfl (by first | exact True.intro | omega | exact sd) ?_ | refine AWk_step hT rfl rfl (by first | exact True.intro | omega | exact sd) ?_ | refine AWk_step0 hT rfl (by first | exact True.intro | omega | exact sd) ?_ | refine AWd_nil ?_ | refine AWk_nil ?_ | refine AWd_gstep hT rfl rfl rfl rfl rfl (by intro hg; first | exact ⟨True.intro, True.intro⟩ | exact sg hg) ?_ | refine AWk_gstep hT rfl rfl rfl rfl (by intro hg; first | exact ⟨True.intro, True.intro⟩ | exact sg hg) ?_ | refine AW_seq ?_ | refine AW_region ?_ | refine AW_draw mixed (by kernel_rfl) ?_ | refine AW_block ?_ | refine AW_skip ?_ | refine AW_exit ?_ | refine AW_ret ?_)
    refine AW_room (AW_acquireH 1 3 2 4 rfl rfl rfl ?_)
    refine AW_loopL (ι := Nat) (fun k => [(0, .d (.int .i64 kind)), (1, .d (.sl 4 (encCs l))), (4, .ptr 0 0), (5, .ptr 1 0), (6, .d (.int .i64 k))])
      (fun k => [.row [.d (.int .i64 0), .d (.int .i64 0), .d (.int .i64 0), .sl 4 [] .full], .row [.d (.int .i64 kind), .d (.int .i64 0), .d (.int .i64 0), .sl 4 (encCs (flatL kind (l.take k))) (.right 2)], .right 4 (encCs (flatL kind (l.take k))).length])
      (fun k => k ≤ l.length) (fun k => l.length - k) 0 (by omega) ⟨.refl _, .refl _, .refl _, .refl _, .refl _, trivial⟩ (HLe.refl _) ?_
    intro k hk
    repeat (first | refine AWd_step hT rfl rfl rfl (by first | exact True.intro | omega | exact sd) ?_ | refine AWk_step hT rfl rfl (by first | exact True.intro | omega | exact sd) ?_ | refine AWk_step0 hT rfl (by first | exact True.intro | omega | exact sd) ?_ | refine AWd_nil ?_ | refine AWk_nil ?_ | refine AWd_gstep hT rfl rfl rfl rfl rfl (by intro hg; first | exact ⟨True.intro, True.intro⟩ | exact sg hg) ?_ | refine AWk_gstep hT rfl rfl rfl rfl (by intro hg; first | exact ⟨True.intro, True.intro⟩ | exact sg hg) ?_ | refine AW_seq ?_ | refine AW_region ?_ | refine AW_draw mixed (by kernel_rfl) ?_ | refine AW_block ?_ | refine AW_skip ?_ | refine AW_exit ?_ | refine AW_ret ?_)
    refine AW_condL rfl (fun h2 => ?_) (fun h2 => ?_)
    · have hlt : k < l.length := by rw [hlen] at h2; simpa using h2
      have hwr : IntKind.i64.wrap ((k : Int) + 1) = ((k + 1 : Nat) : Int) := by rw [wrap_id (by omega)]; simp
      have hsucc := flatL_take_succ kind hlt
      have hle1 := flatL_take_le kind l (k + 1)
      have hel : (encCs l)[((k : Int)).toNat]? = some (encC l[k]) := by simp [encCs_eq, hlt]
      generalize l[k] = c at hel hsucc
      obtain ⟨ck, cc, cv, kids⟩ := c
      rw [encC] at hel
      repeat (first | refine AWd_step hT rfl rfl rfl (by first | exact True.intro | omega | exact sd) ?_ | refine AWk_step hT rfl rfl (by first | exact True.intro | omega | exact sd) ?_ | refine AWk_step0 hT rfl (by first | exact True.intro | omega | exact sd) ?_ | refine AWd_nil ?_ | refine AWk_nil ?_ | refine AWd_gstep hT rfl rfl rfl rfl rfl (by intro hg; first | exact ⟨True.intro, True.intro⟩ | exact sg hg) ?_ | refine AWk_gstep hT rfl rfl rfl rfl (by intro hg; first | exact ⟨True.intro, True.intro⟩ | exact sg hg) ?_ | refine AW_seq ?_ | refine AW_region ?_ | refine AW_draw mixed (by kernel_rfl) ?_ | refine AW_block ?_ | refine AW_skip ?_ | refine AW_exit ?_ | refine AW_ret ?_)
      refine AWk_op (OpS_of_pure (indexAddr_ok hT rfl rfl rfl rfl (by omega) hel)) rfl ?_
      repeat (first | refine AWd_step hT rfl rfl rfl (by first | exact True.intro | omega | exact sd) ?_ | refine AWk_step hT rfl rfl (by first | exact True.intro | omega | exact sd) ?_ | refine AWk_step0 hT rfl (by first | exact True.intro | omega | exact sd) ?_ | refine AWd_nil ?_ | refine AWk_nil ?_ | refine AWd_gstep hT rfl rfl rfl rfl rfl (by intro hg; first | exact ⟨True.intro, True.intro⟩ | exact sg hg) ?_ | refine AWk_gstep hT rfl rfl rfl rfl (by intro hg; first | exact ⟨True.intro, True.intro⟩ | exact sg hg) ?_ | refine AW_seq ?_ | refine AW_region ?_ | refine AW_draw mixed (by kernel_rfl) ?_ | refine AW_block ?_ | refine AW_skip ?_ | refine AW_exit ?_ | refine AW_ret ?_)
      refine AW_condL rfl (fun h3 => ?_) (fun h3 => ?_)
      · have h3' : ck = kind := by simpa using h3
        rw [flatC, if_pos h3'] at hsucc
        rw [hsucc, List.length_append] at hle1
        try rw [List.length_singleton] at hle1
        repeat (first | refine AW_exit ?_ | refine AW_skip ?_)
        refine AW_drawG (fun i => bif Nat.beq i 1 || Nat.beq i 9 then [1] else bif Nat.beq i 7 then [2] else []) (fun i => bif Nat.beq i 9 then [1] else bif Nat.beq i 7 then [2] else []) mixed (by kernel_rfl) ?_
        repeat (first | refine AWg_load hT rfl rfl rfl rfl (by first | exact List.mem_cons_self | exact sm) rfl ?_ | refine AWg_pure hT (fun _ => rfl) rfl rfl (by first | exact True.intro | omega | exact sd) ?_ | refine AWg_store hT rfl rfl rfl (by first | exact List.mem_cons_self | exact sm) rfl ?_ | refine AWd_nil ?_)
        refine AWg_op (os := []) (fun k hk1 hk2 => OpS_of_pure (indexAddr_ok hT rfl rfl rfl rfl (by omega) hel)) rfl ?_
        repeat (first | refine AWg_load hT rfl rfl rfl rfl (by first | exact List.mem_cons_self | exact sm) rfl ?_ | refine AWg_pure hT (fun _ => rfl) rfl rfl (by first | exact True.intro | omega | exact sd) ?_ | refine AWg_store hT rfl rfl rfl (by first | exact List.mem_cons_self | exact sm) rfl ?_ | refine AWd_nil ?_)
        refine AWg_op (v := .sl 4 (encCs (flatL kind (l.take k)) ++ encCs kids) (.right 2)) (os := [.right 4 ((encCs (flatL kind (l.take k))).length + (encCs kids).length)]) (fun hx hk1 hk2 => append_right (i := 2) hT rfl rfl rfl rfl ((hk2 2 List.mem_cons_self).trans rfl) rfl (by show ((encCs (flatL kind (l.take k))).length + (encCs kids).length) * (48 + 1) ≤ 140737488355328; rw [encCs_length, encCs_length]; omega)) rfl ?_
        repeat (first | refine AWg_load hT rfl rfl rfl rfl (by first | exact List.mem_cons_self | exact sm) rfl ?_ | refine AWg_pure hT (fun _ => rfl) rfl rfl (by first | exact True.intro | omega | exact sd) ?_ | refine AWg_store hT rfl rfl rfl (by first | exact List.mem_cons_self | exact sm) rfl ?_ | refine AWd_nil ?_)
        repeat (first | refine AWd_step hT rfl rfl rfl (by first | exact True.intro | omega | exact sd) ?_ | refine AWk_step hT rfl rfl (by first | exact True.intro | omega | exact sd) ?_ | refine AWk_step0 hT rfl (by first | exact True.intro | omega | exact sd) ?_ | refine AWd_nil ?_ | refine AWk_nil ?_ | refine AWd_gstep hT rfl rfl rfl rfl rfl (by intro hg; first | exact ⟨True.intro, True.intro⟩ | exact sg hg) ?_ | refine AWk_gstep hT rfl rfl rfl rfl (by intro hg; first | exact ⟨True.intro, True.intro⟩ | exact sg hg) ?_ | refine AW_seq ?_ | refine AW_region ?_ | refine AW_draw mixed (by kernel_rfl) ?_ | refine AW_block ?_ | refine AW_skip ?_ | refine AW_exit ?_ | refine AW_ret ?_)
        refine ⟨k + 1, by omega, by omega, ⟨.refl _, .refl _, .refl _, .refl _, AV.le.eq (by show AV.d (.int .i64 (IntKind.i64.wrap ((k : Int) + 1))) = _; rw [hwr]), trivial⟩, ⟨ObLe.refl _, ⟨.refl _, .refl _, .refl _, AV.le.eq ?_, trivial⟩, ⟨rfl, ?_⟩, trivial⟩⟩
        · rw [hsucc, encCs_append]
        · rw [hsucc, encCs_append, List.length_append]
      · have h3' : ¬ ck = kind := by simpa using h3
        rw [flatC, if_neg h3'] at hsucc
        rw [hsucc, List.length_append] at hle1
        try rw [List.length_singleton] at hle1
        repeat (first | refine AW_exit ?_ | refine AW_skip ?_)
        refine AW_drawG (fun i => bif Nat.beq i 1 || Nat.beq i 9 then [1] else bif Nat.beq i 7 then [2] else []) (fun i => bif Nat.beq i 9 then [1] else bif Nat.beq i 7 then [2] else []) mixed (by kernel_rfl) ?_
        repeat (first | refine AWg_load hT rfl rfl rfl rfl (by first | exact List.mem_cons_self | exact sm) rfl ?_ | refine AWg_pure hT (fun _ => rfl) rfl rfl (by first | exact True.intro | omega | exact sd) ?_ | refine AWg_store hT rfl rfl rfl (by first | exact List.mem_cons_self | exact sm) rfl ?_ | refine AWd_nil ?_)
        refine AWg_op (os := []) (fun k hk1 hk2 => OpS_of_pure (indexAddr_ok hT rfl rfl rfl rfl (by omega) hel)) rfl ?_
        repeat (first | refine AWg_load hT rfl rfl rfl rfl (by first | exact List.mem_cons_self | exact sm) rfl ?_ | refine AWg_pure hT (fun _ => rfl) rfl rfl (by first | exact True.intro | omega | exact sd) ?_ | refine AWg_store hT rfl rfl rfl (by first | exact List.mem_cons_self | exact sm) rfl ?_ | refine AWd_nil ?_)
        refine AWg_op (os := []) (fun k hk1 hk2 => buildSl_ok hT rfl rfl) rfl ?_
        refine AWg_op (v := .sl 4 (encCs (flatL kind (l.take k)) ++ encCs [.mk ck cc cv kids]) (.right 2)) (os := [.right 4 ((encCs (flatL kind (l.take k))).length + (encCs [.mk ck cc cv kids]).length)]) (fun hx hk1 hk2 => append_right (i := 2) hT rfl rfl rfl rfl ((hk2 2 List.mem_cons_self).trans rfl) rfl (by show ((encCs (flatL kind (l.take k))).length + (encCs [.mk ck cc cv kids]).length) * (48 + 1) ≤ 140737488355328; rw [encCs_length, encCs_length, List.length_singleton]; omega)) rfl ?_
        repeat (first | refine AWg_load hT rfl rfl rfl rfl (by first | exact List.mem_cons_self | exact sm) rfl ?_ | refine AWg_pure hT (fun _ => rfl) rfl rfl (by first | exact True.intro | omega | exact sd) ?_ | refine AWg_store hT rfl rfl rfl (by first | exact List.mem_cons_self | exact sm) rfl ?_ | refine AWd_nil ?_)
        repeat (first | refine AWd_step hT rfl rfl rfl (by first | exact True.intro | omega | exact sd) ?_ | refine AWk_step hT rfl rfl (by first | exact True.intro | omega | exact sd) ?_ | refine AWk_step0 hT rfl (by first | exact True.intro | omega | exact sd) ?_ | refine AWd_nil ?_ | refine AWk_nil ?_ | refine AWd_gstep hT rfl rfl rfl rfl rfl (by intro hg; first | exact ⟨True.intro, True.intro⟩ | exact sg hg) ?_ | refine AWk_gstep hT rfl rfl rfl rfl (by intro hg; first | exact ⟨True.intro, True.intro⟩ | exact sg hg) ?_ | refine AW_seq ?_ | refine AW_region ?_ | refine AW_draw mixed (by kernel_rfl) ?_ | refine AW_block ?_ | refine AW_skip ?_ | refine AW_exit ?_ | refine AW_ret ?_)
        refine ⟨k + 1, by omega, by omega, ⟨.refl _, .refl _, .refl _, .refl _, AV.le.eq (by show AV.d (.int .i64 (IntKind.i64.wrap ((k : Int) + 1))) = _; rw [hwr]), trivial⟩, ⟨ObLe.refl _, ⟨.refl _, .refl _, .refl _, AV.le.eq ?_, trivial⟩, ⟨rfl, ?_⟩, trivial⟩⟩
        · rw [hsucc, encCs_append]
        · rw [hsucc, encCs_append, List.length_append]
    · have hge : k = l.length := by rw [hlen] at h2; simp at h2; omega
      subst hge
      simp only [List.take_length]
      repeat (first | refine AWd_step hT rfl rfl rfl (by first | exact True.intro | omega | exact sd) ?_ | refine AWk_step hT rfl rfl (by first | exact True.intro | omega | exact sd) ?_ | refine AWk_step0 hT rfl (by first | exact True.intro | omega | exact sd) ?_ | refine AWd_nil ?_ | refine AWk_nil ?_ | refine AWd_gstep hT rfl rfl rfl rfl rfl (by intro hg; first | exact ⟨True.intro, True.intro⟩ | exact sg hg) ?_ | refine AWk_gstep hT rfl rfl rfl rfl (by intro hg; first | exact ⟨True.intro, True.intro⟩ | exact sg hg) ?_ | refine AW_seq ?_ | refine AW_region ?_ | refine AW_draw mixed (by kernel_rfl) ?_ | refine AW_block ?_ | refine AW_skip ?_ | refine AW_exit ?_ | refine AW_ret ?_)
      refine ret_exact (r := cAV (.mk kind 0 0 (flatL kind l))) rfl (AV.le.agg ⟨.refl _, .refl _, .refl _, AV.le.dat, trivial⟩) rfl rfl rfl rfl ⟨rfl, rfl⟩
end Tdoc
/- The reference's parser: conditions. -/
set_option linter.unusedVariables false
set_option linter.unusedSimpArgs false
namespace Tdoc
open Go Go.Proofs

def RS.inc (s : RS) : RS := { s with i := s.i + 1 }

def loopR (ws : List Wd) (w : List UInt8) (part : RS → Cond × RS) : Nat → List Cond → RS → List Cond × RS
  | 0, l, s => (l, s)
  | m + 1, l, s => if s.bad < 0 ∧ peekR ws s = w then loopR ws w part m (l ++ [(part s.inc).1]) (part s.inc).2 else (l, s)

def seriesR (ws : List Wd) (kind : Int) (w : List UInt8) (part : RS → Cond × RS) (s : RS) : Cond × RS :=
  (joinR kind (loopR ws w part (ws.length + 1) [(part s).1] (part s).2).1, (loopR ws w part (ws.length + 1) [(part s).1] (part s).2).2)

def atomR (ws : List Wd) : Nat → RS → Cond × RS
  | 0, s => (.mk 0 0 0 [], s)
  | n + 1, s =>
    if 0 ≤ s.bad then (.mk 0 0 0 [], s)
    else if peekR ws s = notW then (.mk 2 0 0 [(atomR ws n s.inc).1], (atomR ws n s.inc).2)
    else if peekR ws s = lpW then ((seriesR ws 4 orW (seriesR ws 3 andW (atomR ws n)) s.inc).1, takeR ws (seriesR ws 4 orW (seriesR ws 3 andW (atomR ws n)) s.inc).2 rpW)
    else if sIdx chk (peekR ws s) + 1 = 0 then (.mk 0 0 0 [], failR ws s)
    else if peekR ws s.inc = isW then
      (.mk 1 (sIdx chk (peekR ws s) + 1) (sIdx vls (peekR ws s.inc.inc) + 1) [], (if sIdx vls (peekR ws s.inc.inc) + 1 = 0 then failR ws s.inc.inc else s.inc.inc).inc)
    else (.mk 1 (sIdx chk (peekR ws s) + 1) 1 [], s.inc)

def conjR (ws : List Wd) (n : Nat) : RS → Cond × RS := seriesR ws 3 andW (atomR ws n)
def condR' (ws : List Wd) (n : Nat) : RS → Cond × RS := seriesR ws 4 orW (conjR ws n)

theorem failR_i (ws : List Wd) (s : RS) : (failR ws s).i = s.i := by unfold failR; split <;> rfl
theorem takeR_i (ws : List Wd) (s : RS) (w : List UInt8) : (takeR ws s w).i = s.i + 1 := by unfold takeR; split <;> rfl
theorem peekR_lt {ws : List Wd} {s : RS} (h : peekR ws s ≠ []) : s.i < ws.length := by
  unfold peekR at h
  split at h
  · rename_i w hw; exact (List.getElem?_eq_some_iff.1 hw).1
  · exact absurd rfl h

structure POk (ws : List Wd) (n : Nat) (part : RS → Cond × RS) : Prop where
  inv : ∀ s, s.i ≤ ws.length → ws.length - s.i < n → s.i ≤ (part s).2.i ∧ (part s).2.i ≤ ws.length + n ∧ wideC (part s).1 ≤ 1 + ((part s).2.i - s.i)

/-- What a list of conditions keeps. -/
structure LOk (ws : List Wd) (kind : Int) (n b : Nat) (l : List Cond) (s : RS) : Prop where
  lo : b ≤ s.i
  hi : s.i ≤ ws.length + n
  len : l.length ≤ 1 + (s.i - b)
  flat : (flatL kind l).length ≤ 1 + (s.i - b)
  wide : ∀ c, c ∈ l → wideC c ≤ 1 + (s.i - b)

theorem LOk.one {ws : List Wd} {kind : Int} {n : Nat} {part : RS → Cond × RS} (hp : POk ws n part) {s : RS} (h : s.i ≤ ws.length) (hn : ws.length - s.i < n) : LOk ws kind n s.i [(part s).1] (part s).2 := by
  obtain ⟨k1, k2, k3⟩ := hp.inv s h hn
  have hf := flatC_len kind (part s).1
  refine ⟨k1, k2, by simp, by rw [flatL_one]; omega, fun c hc => ?_⟩
  rw [List.mem_singleton.1 hc]; exact k3

theorem LOk.more {ws : List Wd} {kind : Int} {n b : Nat} {part : RS → Cond × RS} (hp : POk ws n part) {l : List Cond} {s : RS} (h : LOk ws kind n b l s) (hlt : s.i < ws.length) (hn : ws.length - s.i < n + 1) :
    LOk ws kind n b (l ++ [(part s.inc).1]) (part s.inc).2 ∧ s.i < (part s.inc).2.i := by
  have hi : s.inc.i = s.i + 1 := rfl
  obtain ⟨k1, k2, k3⟩ := hp.inv s.inc (by omega) (by omega)
  have hf := flatC_len kind (part s.inc).1
  have := h.lo; have := h.len; have := h.flat
  refine ⟨⟨by omega, k2, by rw [List.length_append, List.length_singleton]; omega, by rw [flatL_append, flatL_one, List.length_append]; omega, fun c hc => ?_⟩, by omega⟩
  rcases List.mem_append.1 hc with hc | hc
  · have := h.wide c hc; omega
  · rw [List.mem_singleton.1 hc]; omega

theorem loopR_ok {ws : List Wd} {kind : Int} {n b : Nat} {part : RS → Cond × RS} (hp : POk ws n part) {w : List UInt8} (hw : w ≠ []) : ∀ (m : Nat) (l : List Cond) (s : RS), LOk ws kind n b l s → ws.length - s.i < n + 1 →
    LOk ws kind n b (loopR ws w part m l s).1 (loopR ws w part m l s).2
  | 0, l, s, h, hn => h
  | m + 1, l, s, h, hn => by
    unfold loopR
    split
    · rename_i hc
      have hlt := peekR_lt (ws := ws) (s := s) (by rw [hc.2]; exact hw)
      obtain ⟨h1, h2⟩ := h.more hp hlt hn
      exact loopR_ok hp hw m _ _ h1 (by omega)
    · exact h

theorem joinR_wide {ws : List Wd} {kind : Int} {n b : Nat} {l : List Cond} {s : RS} (h : LOk ws kind n b l s) : wideC (joinR kind l) ≤ 1 + (s.i - b) := by
  unfold joinR
  split
  · exact h.wide _ (by simp)
  · exact h.flat

theorem seriesR_ok {ws : List Wd} {n : Nat} {part : RS → Cond × RS} (hp : POk ws n part) (kind : Int) {w : List UInt8} (hw : w ≠ []) : POk ws n (seriesR ws kind w part) := by
  refine ⟨fun s h hn => ?_⟩
  have h1 := LOk.one (kind := kind) hp h hn
  have hlo := h1.lo
  have h2 := loopR_ok hp hw (ws.length + 1) _ _ h1 (by omega)
  exact ⟨h2.lo, h2.hi, joinR_wide h2⟩

theorem atomR_ok (ws : List Wd) : ∀ n, POk ws n (atomR ws n)
  | 0 => ⟨fun s _ hn => by omega⟩
  | n + 1 => by
    have ih := atomR_ok ws n
    refine ⟨fun s h hn => ?_⟩
    have hi : s.inc.i = s.i + 1 := rfl
    unfold atomR
    split
    · exact ⟨Nat.le_refl _, by simp only; omega, by simp only [wideC, List.length_nil]; omega⟩
    · split
      · rename_i hc
        have hlt := peekR_lt (ws := ws) (s := s) (by rw [hc]; decide)
        obtain ⟨q1, q2, q3⟩ := ih.inv s.inc (by omega) (by omega)
        exact ⟨by simp only; omega, by simp only; omega, by simp only [wideC, List.length_cons, List.length_nil]; omega⟩
      · split
        · rename_i hc
          have hlt := peekR_lt (ws := ws) (s := s) (by rw [hc]; decide)
          obtain ⟨q1, q2, q3⟩ := (seriesR_ok (seriesR_ok ih 3 (w := andW) (by decide)) 4 (w := orW) (by decide)).inv s.inc (by omega) (by omega)
          exact ⟨by simp only [takeR_i]; omega, by simp only [takeR_i]; omega, by simp only [takeR_i]; omega⟩
        · split
          · exact ⟨by simp only [failR_i]; omega, by simp only [failR_i]; omega, by simp only [wideC, List.length_nil]; omega⟩
          · rename_i hc
            have hlt := peekR_lt (ws := ws) (s := s) (by intro hz; rw [hz] at hc; exact hc (by decide))
            split
            · rename_i hc2
              have hlt2 := peekR_lt (ws := ws) (s := s.inc) (by rw [hc2]; decide)
              have e1 : ∀ x : RS, x.inc.i = x.i + 1 := fun _ => rfl
              refine ⟨?_, ?_, by simp only [wideC, List.length_nil]; omega⟩
              · simp only [e1]; split <;> simp only [failR_i, e1] <;> omega
              · simp only [e1]; split <;> simp only [failR_i, e1] <;> omega
            · exact ⟨by simp only; omega, by simp only; omega, by simp only [wideC, List.length_nil]; omega⟩

theorem conjR_ok (ws : List Wd) (n : Nat) : POk ws n (conjR ws n) := seriesR_ok (atomR_ok ws n) 3 (by decide)
theorem condR'_ok (ws : List Wd) (n : Nat) : POk ws n (condR' ws n) := seriesR_ok (conjR_ok ws n) 4 (by decide)

def PSpec (ws : List Wd) (n : Nat) (g : FuncId) (part : RS → Cond × RS) : Prop :=
  ∀ s, s.i ≤ ws.length → ws.length - s.i < n → Spec Try.prog g [.ptr 0 0] [.row (rsr ws s)] (fun r h' => r = cAV (part s).1 ∧ h' = [.row (rsr ws (part s).2)])

set_option maxHeartbeats 4000000 in
set_option maxRecDepth 100000 in
theorem conjR_spec {ws : List Wd} {n : Nat} (hl : ws.length ≤ 1000000) (hn1 : n ≤ 1000001) (HS : PSpec ws n 68 (atomR ws n)) : PSpec ws n 48 (conjR ws n) := by
  have hp := atomR_ok ws n
  intro s h hn
  have hS := HS s h hn
  have hl1 := LOk.one (kind := 3) hp h hn
  have hl1lo := hl1.lo
  unfold conjR seriesR
  generalize hfin : loopR ws andW (atomR ws n) (ws.length + 1) [(atomR ws n s).1] (atomR ws n s).2 = fin
  generalize atomR ws n s = ps at hS hl1 hl1lo hfin
  obtain ⟨⟨ck, cc, cv, kids⟩, s1⟩ := ps
  simp only at hS hl1 hl1lo hfin
  refine Spec_of_body hT Try.func48 rfl rfl rfl rfl ?_
  intro E hE
  repeat (first | refine AWd_step hT rfl rfl rfl (by first | exact True.intro | omega | exact sd) ?_ | refine AWk_step hT rfl rfl (by first | exact True.intro | omega | exact sd) ?_ | refine AWk_step0 hT rfl (by first | exact True.intro | omega | exact sd) ?_ | refine AWd_nil ?_ | refine AWk_nil ?_ | refine AWd_gstep hT rfl rfl rfl rfl rfl (by intro hg; first | exact ⟨True.intro, True.intro⟩ | exact sg hg) ?_ | refine AWk_gstep hT rfl rfl rfl rfl (by intro hg; first | exact ⟨True.intro, True.intro⟩ | exact sg hg) ?_ | refine AW_seq ?_ | refine AW_region ?_ | refine AW_draw mixed (by kernel_rfl) ?_ | refine AW_block ?_ | refine AW_skip ?_ | refine AW_exit ?_ | refine AW_ret ?_)
  refine AWk_op (callS1 rfl rfl hS [0] (by decide) rfl rfl rfl (lowH_rsr 0 _ _) (lowH_rsr 0 _ _) (ren_cAV _ _) rfl) rfl ?_
  repeat (first | refine AWd_step hT rfl rfl rfl (by first | exact True.intro | omega | exact sd) ?_ | refine AWk_step hT rfl rfl (by first | exact True.intro | omega | exact sd) ?_ | refine AWk_step0 hT rfl (by first | exact True.intro | omega | exact sd) ?_ | refine AWd_nil ?_ | refine AWk_nil ?_ | refine AWd_gstep hT rfl rfl rfl rfl rfl (by intro hg; first | exact ⟨True.intro, True.intro⟩ | exact sg hg) ?_ | refine AWk_gstep hT rfl rfl rfl rfl (by intro hg; first | exact ⟨True.intro, True.intro⟩ | exact sg hg) ?_ | refine AW_seq ?_ | refine AW_region ?_ | refine AW_draw mixed (by kernel_rfl) ?_ | refine AW_block ?_ | refine AW_skip ?_ | refine AW_exit ?_ | refine AW_ret ?_)
  refine AW_room (AW_acquireAt 3 4 2 (.inl rfl) rfl ?_)
  refine AW_loopL (ι := List Cond × RS) (fun x => [(0, .ptr 0 0), (2, .ptr 1 0), (3, .sl 4 (encCs x.1) (.right 2))])
    (fun x => [.row (rsr ws x.2), .row [.d (.int .i64 0), .d (.int .i64 0), .d (.int .i64 0), .sl 4 [] .full], .right 4 (encCs x.1).length])
    (fun x => LOk ws 3 n s.i x.1 x.2 ∧ ∃ m, ws.length - x.2.i < m ∧ loopR ws andW (atomR ws n) m x.1 x.2 = fin) (fun x => ws.length - x.2.i)
    ([.mk ck cc cv kids], s1) ⟨hl1, ws.length + 1, by simp only; omega, hfin⟩ ⟨.refl _, .refl _, .refl _, trivial⟩ (HLe.refl _) ?_
  rintro ⟨l, s2⟩ ⟨j1, m, j4, j5⟩
  simp only at j1 j4 j5 ⊢
  obtain ⟨m, rfl⟩ : ∃ m', m = m' + 1 := ⟨m - 1, by omega⟩
  rw [loopR] at j5
  have hpk := peek_spec ws s2
  have hplt := peekR_lt (ws := ws) (s := s2)
  generalize peekR ws s2 = pk at hpk hplt j5
  obtain ⟨i2, en2, bad2⟩ := s2
  simp only at j4 hplt
  repeat (first | refine AWd_step hT rfl rfl rfl (by first | exact True.intro | omega | exact sd) ?_ | refine AWk_step hT rfl rfl (by first | exact True.intro | omega | exact sd) ?_ | refine AWk_step0 hT rfl (by first | exact True.intro | omega | exact sd) ?_ | refine AWd_nil ?_ | refine AWk_nil ?_ | refine AWd_gstep hT rfl rfl rfl rfl rfl (by intro hg; first | exact ⟨True.intro, True.intro⟩ | exact sg hg) ?_ | refine AWk_gstep hT rfl rfl rfl rfl (by intro hg; first | exact ⟨True.intro, True.intro⟩ | exact sg hg) ?_ | refine AW_seq ?_ | refine AW_region ?_ | refine AW_draw mixed (by kernel_rfl) ?_ | refine AW_block ?_ | refine AW_skip ?_ | refine AW_exit ?_ | refine AW_ret ?_)
  refine AWk_gop rfl rfl rfl (fun hg => ⟨by first | exact True.intro | exact ⟨hg, True.intro⟩, callS1 rfl rfl hpk [0] (by decide) rfl rfl rfl rfl rfl rfl rfl⟩) ?_
  repeat (first | refine AWd_step hT rfl rfl rfl (by first | exact True.intro | omega | exact sd) ?_ | refine AWk_step hT rfl rfl (by first | exact True.intro | omega | exact sd) ?_ | refine AWk_step0 hT rfl (by first | exact True.intro | omega | exact sd) ?_ | refine AWd_nil ?_ | refine AWk_nil ?_ | refine AWd_gstep hT rfl rfl rfl rfl rfl (by intro hg; first | exact ⟨True.intro, True.intro⟩ | exact sg hg) ?_ | refine AWk_gstep hT rfl rfl rfl rfl (by intro hg; first | exact ⟨True.intro, True.intro⟩ | exact sg hg) ?_ | refine AW_seq ?_ | refine AW_region ?_ | refine AW_draw mixed (by kernel_rfl) ?_ | refine AW_block ?_ | refine AW_skip ?_ | refine AW_exit ?_ | refine AW_ret ?_)
  refine AW_condL rfl (fun h2 => ?_) (fun h2 => ?_)
  · have h2' : bad2 < 0 ∧ pk = andW := by simpa [andW, orW] using h2
    rw [if_pos h2'] at j5
    have hlt := hplt (by rw [h2'.2]; decide)
    have hlo := j1.lo
    simp only at hlo
    obtain ⟨k1, k2⟩ := j1.more hp hlt (by simp only; omega)
    have hS2 := HS (RS.inc ⟨i2, en2, bad2⟩) (by show i2 + 1 ≤ _; omega) (by show _ - (i2 + 1) < _; omega)
    generalize atomR ws n (RS.inc ⟨i2, en2, bad2⟩) = ps2 at hS2 k1 k2 j5
    obtain ⟨⟨dk, dc, dv, dkids⟩, s3⟩ := ps2
    simp only at hS2 k1 k2 j5
    have hwr : IntKind.i64.wrap ((i2 : Int) + 1) = ((i2 + 1 : Nat) : Int) := by rw [wrap_id (by omega)]; simp
    have hlen := j1.len
    simp only at hlen
    repeat (first | refine AWd_step hT rfl rfl rfl (by first | exact True.intro | omega | exact sd) ?_ | refine AWk_step hT rfl rfl (by first | exact True.intro | omega | exact sd) ?_ | refine AWk_step0 hT rfl (by first | exact True.intro | omega | exact sd) ?_ | refine AWd_nil ?_ | refine AWk_nil ?_ | refine AWd_gstep hT rfl rfl rfl rfl rfl (by intro hg; first | exact ⟨True.intro, True.intro⟩ | exact sg hg) ?_ | refine AWk_gstep hT rfl rfl rfl rfl (by intro hg; first | exact ⟨True.intro, True.intro⟩ | exact sg hg) ?_ | refine AW_seq ?_ | refine AW_region ?_ | refine AW_draw mixed (by kernel_rfl) ?_ | refine AW_block ?_ | refine AW_skip ?_ | refine AW_exit ?_ | refine AW_ret ?_)
    refine AWk_op (callS1 rfl rfl hS2 [0] (by decide) (by show [some (AObj.row [_, .d (.int .i64 (IntKind.i64.wrap ((i2 : Int) + 1))), _, _])] = _; rw [hwr]; rfl) rfl rfl (lowH_rsr 0 _ _) (lowH_rsr 0 _ _) (ren_cAV _ _) rfl) rfl ?_
    repeat (first | refine AWd_step hT rfl rfl rfl (by first | exact True.intro | omega | exact sd) ?_ | refine AWk_step hT rfl rfl (by first | exact True.intro | omega | exact sd) ?_ | refine AWk_step0 hT rfl (by first | exact True.intro | omega | exact sd) ?_ | refine AWd_nil ?_ | refine AWk_nil ?_ | refine AWd_gstep hT rfl rfl rfl rfl rfl (by intro hg; first | exact ⟨True.intro, True.intro⟩ | exact sg hg) ?_ | refine AWk_gstep hT rfl rfl rfl rfl (by intro hg; first | exact ⟨True.intro, True.intro⟩ | exact sg hg) ?_ | refine AW_seq ?_ | refine AW_region ?_ | refine AW_draw mixed (by kernel_rfl) ?_ | refine AW_block ?_ | refine AW_skip ?_ | refine AW_exit ?_ | refine AW_ret ?_)
    refine AWk_op (append_right (i := 2) hT rfl rfl rfl rfl rfl rfl (by show ((encCs l).length + 1) * (48 + 1) ≤ 140737488355328; rw [encCs_length]; omega)) rfl ?_
    repeat (first | refine AWd_step hT rfl rfl rfl (by first | exact True.intro | omega | exact sd) ?_ | refine AWk_step hT rfl rfl (by first | exact True.intro | omega | exact sd) ?_ | refine AWk_step0 hT rfl (by first | exact True.intro | omega | exact sd) ?_ | refine AWd_nil ?_ | refine AWk_nil ?_ | refine AWd_gstep hT rfl rfl rfl rfl rfl (by intro hg; first | exact ⟨True.intro, True.intro⟩ | exact sg hg) ?_ | refine AWk_gstep hT rfl rfl rfl rfl (by intro hg; first | exact ⟨True.intro, True.intro⟩ | exact sg hg) ?_ | refine AW_seq ?_ | refine AW_region ?_ | refine AW_draw mixed (by kernel_rfl) ?_ | refine AW_block ?_ | refine AW_skip ?_ | refine AW_exit ?_ | refine AW_ret ?_)
    refine ⟨(l ++ [.mk dk dc dv dkids], s3), ⟨k1, m, by simp only; omega, j5⟩, by simp only; omega, ⟨.refl _, .refl _, AV.le.eq ?_, trivial⟩, ⟨ObLe.refl _, ObLe.refl _, ⟨rfl, ?_⟩, trivial⟩⟩
    · rw [encCs_append]; rfl
    · rw [encCs_append, List.length_append]; rfl
  · have h2' : ¬ (bad2 < 0 ∧ pk = andW) := by simpa [andW, orW] using h2
    rw [if_neg h2'] at j5
    subst j5
    have hhi := j1.hi; have hll := j1.len; have hff := j1.flat
    simp only at hhi hll hff
    have hj := join_spec 3 l (by omega) (by omega)
    generalize joinR 3 l = jc at hj ⊢
    obtain ⟨jk, jch, jv, jkids⟩ := jc
    repeat (first | refine AW_exit ?_ | refine AW_skip ?_)
    refine AW_subL (l := [(0, .ptr 0 0), (2, .ptr 1 0), (3, .d (.sl 4 (encCs l)))]) (h' := [.row (rsr ws ⟨i2, en2, bad2⟩), .row [.d (.int .i64 0), .d (.int .i64 0), .d (.int .i64 0), .sl 4 [] .full], .dead]) ⟨.refl _, .refl _, AV.le.dat, trivial⟩ ⟨ObLe.refl _, ObLe.refl _, trivial, trivial⟩ ?_
    repeat (first | refine AWd_step hT rfl rfl rfl (by first | exact True.intro | omega | exact sd) ?_ | refine AWk_step hT rfl rfl (by first | exact True.intro | omega | exact sd) ?_ | refine AWk_step0 hT rfl (by first | exact True.intro | omega | exact sd) ?_ | refine AWd_nil ?_ | refine AWk_nil ?_ | refine AWd_gstep hT rfl rfl rfl rfl rfl (by intro hg; first | exact ⟨True.intro, True.intro⟩ | exact sg hg) ?_ | refine AWk_gstep hT rfl rfl rfl rfl (by intro hg; first | exact ⟨True.intro, True.intro⟩ | exact sg hg) ?_ | refine AW_seq ?_ | refine AW_region ?_ | refine AW_draw mixed (by kernel_rfl) ?_ | refine AW_block ?_ | refine AW_skip ?_ | refine AW_exit ?_ | refine AW_ret ?_)
    refine AWk_op (callS0 rfl rfl hj rfl rfl rfl) rfl ?_
    repeat (first | refine AWd_step hT rfl rfl rfl (by first | exact True.intro | omega | exact sd) ?_ | refine AWk_step hT rfl rfl (by first | exact True.intro | omega | exact sd) ?_ | refine AWk_step0 hT rfl (by first | exact True.intro | omega | exact sd) ?_ | refine AWd_nil ?_ | refine AWk_nil ?_ | refine AWd_gstep hT rfl rfl rfl rfl rfl (by intro hg; first | exact ⟨True.intro, True.intro⟩ | exact sg hg) ?_ | refine AWk_gstep hT rfl rfl rfl rfl (by intro hg; first | exact ⟨True.intro, True.intro⟩ | exact sg hg) ?_ | refine AW_seq ?_ | refine AW_region ?_ | refine AW_draw mixed (by kernel_rfl) ?_ | refine AW_block ?_ | refine AW_skip ?_ | refine AW_exit ?_ | refine AW_ret ?_)
    exact ret_exact (r := cAV (.mk jk jch jv jkids)) rfl (.refl _) rfl rfl rfl rfl ⟨rfl, rfl⟩

set_option maxHeartbeats 4000000 in
set_option maxRecDepth 100000 in
theorem condR'_spec {ws : List Wd} {n : Nat} (hl : ws.length ≤ 1000000) (hn1 : n ≤ 1000001) (HS : PSpec ws n 48 (conjR ws n)) : PSpec ws n 29 (condR' ws n) := by
  have hp := conjR_ok ws n
  intro s h hn
  have hS := HS s h hn
  have hl1 := LOk.one (kind := 4) hp h hn
  have hl1lo := hl1.lo
  unfold condR' seriesR
  generalize hfin : loopR ws orW (conjR ws n) (ws.length + 1) [(conjR ws n s).1] (conjR ws n s).2 = fin
  generalize conjR ws n s = ps at hS hl1 hl1lo hfin
  obtain ⟨⟨ck, cc, cv, kids⟩, s1⟩ := ps
  simp only at hS hl1 hl1lo hfin
  refine Spec_of_body hT Try.func29 rfl rfl rfl rfl ?_
  intro E hE
  repeat (first | refine AWd_step hT rfl rfl rfl (by first | exact True.intro | omega | exact sd) ?_ | refine AWk_step hT rfl rfl (by first | exact True.intro | omega | exact sd) ?_ | refine AWk_step0 hT rfl (by first | exact True.intro | omega | exact sd) ?_ | refine AWd_nil ?_ | refine AWk_nil ?_ | refine AWd_gstep hT rfl rfl rfl rfl rfl (by intro hg; first | exact ⟨True.intro, True.intro⟩ | exact sg hg) ?_ | refine AWk_gstep hT rfl rfl rfl rfl (by intro hg; first | exact ⟨True.intro, True.intro⟩ | exact sg hg) ?_ | refine AW_seq ?_ | refine AW_region ?_ | refine AW_draw mixed (by kernel_rfl) ?_ | refine AW_block ?_ | refine AW_skip ?_ | refine AW_exit ?_ | refine AW_ret ?_)
  refine AWk_op (callS1 rfl rfl hS [0] (by decide) rfl rfl rfl (lowH_rsr 0 _ _) (lowH_rsr 0 _ _) (ren_cAV _ _) rfl) rfl ?_
  repeat (first | refine AWd_step hT rfl rfl rfl (by first | exact True.intro | omega | exact sd) ?_ | refine AWk_step hT rfl rfl (by first | exact True.intro | omega | exact sd) ?_ | refine AWk_step0 hT rfl (by first | exact True.intro | omega | exact sd) ?_ | refine AWd_nil ?_ | refine AWk_nil ?_ | refine AWd_gstep hT rfl rfl rfl rfl rfl (by intro hg; first | exact ⟨True.intro, True.intro⟩ | exact sg hg) ?_ | refine AWk_gstep hT rfl rfl rfl rfl (by intro hg; first | exact ⟨True.intro, True.intro⟩ | exact sg hg) ?_ | refine AW_seq ?_ | refine AW_region ?_ | refine AW_draw mixed (by kernel_rfl) ?_ | refine AW_block ?_ | refine AW_skip ?_ | refine AW_exit ?_ | refine AW_ret ?_)
  refine AW_room (AW_acquireAt 3 4 2 (.inl rfl) rfl ?_)
  refine AW_loopL (ι := List Cond × RS) (fun x => [(0, .ptr 0 0), (2, .ptr 1 0), (3, .sl 4 (encCs x.1) (.right 2))])
    (fun x => [.row (rsr ws x.2), .row [.d (.int .i64 0), .d (.int .i64 0), .d (.int .i64 0), .sl 4 [] .full], .right 4 (encCs x.1).length])
    (fun x => LOk ws 4 n s.i x.1 x.2 ∧ ∃ m, ws.length - x.2.i < m ∧ loopR ws orW (conjR ws n) m x.1 x.2 = fin) (fun x => ws.length - x.2.i)
    ([.mk ck cc cv kids], s1) ⟨hl1, ws.length + 1, by simp only; omega, hfin⟩ ⟨.refl _, .refl _, .refl _, trivial⟩ (HLe.refl _) ?_
  rintro ⟨l, s2⟩ ⟨j1, m, j4, j5⟩
  simp only at j1 j4 j5 ⊢
  obtain ⟨m, rfl⟩ : ∃ m', m = m' + 1 := ⟨m - 1, by omega⟩
  rw [loopR] at j5
  have hpk := peek_spec ws s2
  have hplt := peekR_lt (ws := ws) (s := s2)
  generalize peekR ws s2 = pk at hpk hplt j5
  obtain ⟨i2, en2, bad2⟩ := s2
  simp only at j4 hplt
  repeat (first | refine AWd_step hT rfl rfl rfl (by first | exact True.intro | omega | exact sd) ?_ | refine AWk_step hT rfl rfl (by first | exact True.intro | omega | exact sd) ?_ | refine AWk_step0 hT rfl (by first | exact True.intro | omega | exact sd) ?_ | refine AWd_nil ?_ | refine AWk_nil ?_ | refine AWd_gstep hT rfl rfl rfl rfl rfl (by intro hg; first | exact ⟨True.intro, True.intro⟩ | exact sg hg) ?_ | refine AWk_gstep hT rfl rfl rfl rfl (by intro hg; first | exact ⟨True.intro, True.intro⟩ | exact sg hg) ?_ | refine AW_seq ?_ | refine AW_region ?_ | refine AW_draw mixed (by kernel_rfl) ?_ | refine AW_block ?_ | refine AW_skip ?_ | refine AW_exit ?_ | refine AW_ret ?_)
  refine AWk_gop rfl rfl rfl (fun hg => ⟨by first | exact True.intro | exact ⟨hg, True.intro⟩, callS1 rfl rfl hpk [0] (by decide) rfl rfl rfl rfl rfl rfl rfl⟩) ?_
  repeat (first | refine AWd_step hT rfl rfl rfl (by first | exact True.intro | omega | exact sd) ?_ | refine AWk_step hT rfl rfl (by first | exact True.intro | omega | exact sd) ?_ | refine AWk_step0 hT rfl (by first | exact True.intro | omega | exact sd) ?_ | refine AWd_nil ?_ | refine AWk_nil ?_ | refine AWd_gstep hT rfl rfl rfl rfl rfl (by intro hg; first | exact ⟨True.intro, True.intro⟩ | exact sg hg) ?_ | refine AWk_gstep hT rfl rfl rfl rfl (by intro hg; first | exact ⟨True.intro, True.intro⟩ | exact sg hg) ?_ | refine AW_seq ?_ | refine AW_region ?_ | refine AW_draw mixed (by kernel_rfl) ?_ | refine AW_block ?_ | refine AW_skip ?_ | refine AW_exit ?_ | refine AW_ret ?_)
  refine AW_condL rfl (fun h2 => ?_) (fun h2 => ?_)
  · have h2' : bad2 < 0 ∧ pk = orW := by simpa [andW, orW] using h2
    rw [if_pos h2'] at j5
    have hlt := hplt (by rw [h2'.2]; decide)
    have hlo := j1.lo
    simp only at hlo
    obtain ⟨k1, k2⟩ := j1.more hp hlt (by simp only; omega)
    have hS2 := HS (RS.inc ⟨i2, en2, bad2⟩) (by show i2 + 1 ≤ _; omega) (by show _ - (i2 + 1) < _; omega)
    generalize conjR ws n (RS.inc ⟨i2, en2, bad2⟩) = ps2 at hS2 k1 k2 j5
    obtain ⟨⟨dk, dc, dv, dkids⟩, s3⟩ := ps2
    simp only at hS2 k1 k2 j5
    have hwr : IntKind.i64.wrap ((i2 : Int) + 1) = ((i2 + 1 : Nat) : Int) := by rw [wrap_id (by omega)]; simp
    have hlen := j1.len
    simp only at hlen
    repeat (first | refine AWd_step hT rfl rfl rfl (by first | exact True.intro | omega | exact sd) ?_ | refine AWk_step hT rfl rfl (by first | exact True.intro | omega | exact sd) ?_ | refine AWk_step0 hT rfl (by first | exact True.intro | omega | exact sd) ?_ | refine AWd_nil ?_ | refine AWk_nil ?_ | refine AWd_gstep hT rfl rfl rfl rfl rfl (by intro hg; first | exact ⟨True.intro, True.intro⟩ | exact sg hg) ?_ | refine AWk_gstep hT rfl rfl rfl rfl (by intro hg; first | exact ⟨True.intro, True.intro⟩ | exact sg hg) ?_ | refine AW_seq ?_ | refine AW_region ?_ | refine AW_draw mixed (by kernel_rfl) ?_ | refine AW_block ?_ | refine AW_skip ?_ | refine AW_exit ?_ | refine AW_ret ?_)
    refine AWk_op (callS1 rfl rfl hS2 [0] (by decide) (by show [some (AObj.row [_, .d (.int .i64 (IntKind.i64.wrap ((i2 : Int) + 1))), _, _])] = _; rw [hwr]; rfl) rfl rfl (lowH_rsr 0 _ _) (lowH_rsr 0 _ _) (ren_cAV _ _) rfl) rfl ?_
    repeat (first | refine AWd_step hT rfl rfl rfl (by first | exact True.intro | omega | exact sd) ?_ | refine AWk_step hT rfl rfl (by first | exact True.intro | omega | exact sd) ?_ | refine AWk_step0 hT rfl (by first | exact True.intro | omega | exact sd) ?_ | refine AWd_nil ?_ | refine AWk_nil ?_ | refine AWd_gstep hT rfl rfl rfl rfl rfl (by intro hg; first | exact ⟨True.intro, True.intro⟩ | exact sg hg) ?_ | refine AWk_gstep hT rfl rfl rfl rfl (by intro hg; first | exact ⟨True.intro, True.intro⟩ | exact sg hg) ?_ | refine AW_seq ?_ | refine AW_region ?_ | refine AW_draw mixed (by kernel_rfl) ?_ | refine AW_block ?_ | refine AW_skip ?_ | refine AW_exit ?_ | refine AW_ret ?_)
    refine AWk_op (append_right (i := 2) hT rfl rfl rfl rfl rfl rfl (by show ((encCs l).length + 1) * (48 + 1) ≤ 140737488355328; rw [encCs_length]; omega)) rfl ?_
    repeat (first | refine AWd_step hT rfl rfl rfl (by first | exact True.intro | omega | exact sd) ?_ | refine AWk_step hT rfl rfl (by first | exact True.intro | omega | exact sd) ?_ | refine AWk_step0 hT rfl (by first | exact True.intro | omega | exact sd) ?_ | refine AWd_nil ?_ | refine AWk_nil ?_ | refine AWd_gstep hT rfl rfl rfl rfl rfl (by intro hg; first | exact ⟨True.intro, True.intro⟩ | exact sg hg) ?_ | refine AWk_gstep hT rfl rfl rfl rfl (by intro hg; first | exact ⟨True.intro, True.intro⟩ | exact sg hg) ?_ | refine AW_seq ?_ | refine AW_region ?_ | refine AW_draw mixed (by kernel_rfl) ?_ | refine AW_block ?_ | refine AW_skip ?_ | refine AW_exit ?_ | refine AW_ret ?_)
    refine ⟨(l ++ [.mk dk dc dv dkids], s3), ⟨k1, m, by simp only; omega, j5⟩, by simp only; omega, ⟨.refl _, .refl _, AV.le.eq ?_, trivial⟩, ⟨ObLe.refl _, ObLe.refl _, ⟨rfl, ?_⟩, trivial⟩⟩
    · rw [encCs_append]; rfl
    · rw [encCs_append, List.length_append]; rfl
  · have h2' : ¬ (bad2 < 0 ∧ pk = orW) := by simpa [andW, orW] using h2
    rw [if_neg h2'] at j5
    subst j5
    have hhi := j1.hi; have hll := j1.len; have hff := j1.flat
    simp only at hhi hll hff
    have hj := join_spec 4 l (by omega) (by omega)
    generalize joinR 4 l = jc at hj ⊢
    obtain ⟨jk, jch, jv, jkids⟩ := jc
    repeat (first | refine AW_exit ?_ | refine AW_skip ?_)
    refine AW_subL (l := [(0, .ptr 0 0), (2, .ptr 1 0), (3, .d (.sl 4 (encCs l)))]) (h' := [.row (rsr ws ⟨i2, en2, bad2⟩), .row [.d (.int .i64 0), .d (.int .i64 0), .d (.int .i64 0), .sl 4 [] .full], .dead]) ⟨.refl _, .refl _, AV.le.dat, trivial⟩ ⟨ObLe.refl _, ObLe.refl _, trivial, trivial⟩ ?_
    repeat (first | refine AWd_step hT rfl rfl rfl (by first | exact True.intro | omega | exact sd) ?_ | refine AWk_step hT rfl rfl (by first | exact True.intro | omega | exact sd) ?_ | refine AWk_step0 hT rfl (by first | exact True.intro | omega | exact sd) ?_ | refine AWd_nil ?_ | refine AWk_nil ?_ | refine AWd_gstep hT rfl rfl rfl rfl rfl (by intro hg; first | exact ⟨True.intro, True.intro⟩ | exact sg hg) ?_ | refine AWk_gstep hT rfl rfl rfl rfl (by intro hg; first | exact ⟨True.intro, True.intro⟩ | exact sg hg) ?_ | refine AW_seq ?_ | refine AW_region ?_ | refine AW_draw mixed (by kernel_rfl) ?_ | refine AW_block ?_ | refine AW_skip ?_ | refine AW_exit ?_ | refine AW_ret ?_)
    refine AWk_op (callS0 rfl rfl hj rfl rfl rfl) rfl ?_
    repeat (first | refine AWd_step hT rfl rfl rfl (by first | exact True.intro | omega | exact sd) ?_ | refine AWk_step hT rfl rfl (by first | exact True.intro | omega | exact sd) ?_ | refine AWk_step0 hT rfl (by first | exact True.intro | omega | exact sd) ?_ | refine AWd_nil ?_ | refine AWk_nil ?_ | refine AWd_gstep hT rfl rfl rfl rfl rfl (by intro hg; first | exact ⟨True.intro, True.intro⟩ | exact sg hg) ?_ | refine AWk_gstep hT rfl rfl rfl rfl (by intro hg; first | exact ⟨True.intro, True.intro⟩ | exact sg hg) ?_ | refine AW_seq ?_ | refine AW_region ?_ | refine AW_draw mixed (by kernel_rfl) ?_ | refine AW_block ?_ | refine AW_skip ?_ | refine AW_exit ?_ | refine AW_ret ?_)
    exact ret_exact (r := cAV (.mk jk jch jv jkids)) rfl (.refl _) rfl rfl rfl rfl ⟨rfl, rfl⟩
end Tdoc
/- The reference's parser: the smallest conditions, and all of them. -/
set_option linter.unusedVariables false
set_option linter.unusedSimpArgs false
namespace Tdoc
open Go Go.Proofs

set_option maxHeartbeats 4000000 in
set_option maxRecDepth 100000 in
theorem atomR_spec {ws : List Wd} (hl : ws.length ≤ 1000000) : ∀ n, n ≤ 1000001 → PSpec ws n 68 (atomR ws n)
  | 0, _ => fun s _ hn => by omega
  | n + 1, hn1 => by
    have ih := atomR_spec hl n (by omega)
    have hc := condR'_spec hl (by omega) (conjR_spec hl (by omega) ih)
    have hcok := condR'_ok ws n
    intro s h hn
    have hpk := peek_spec ws s
    have hfl := fail_spec ws s
    have hplt := peekR_lt (ws := ws) (s := s)
    generalize hres : atomR ws (n + 1) s = res
    unfold atomR at hres
    change (if 0 ≤ s.bad then _ else if peekR ws s = notW then _ else if peekR ws s = lpW then ((condR' ws n s.inc).1, takeR ws (condR' ws n s.inc).2 rpW) else _) = res at hres
    generalize peekR ws s = pk at hpk hplt hres
    generalize failR ws s = sf at hfl hres
    obtain ⟨i, en, bad⟩ := s
    simp only at h hn hplt hres
    have hwr : IntKind.i64.wrap ((i : Int) + 1) = ((i + 1 : Nat) : Int) := by rw [wrap_id (by omega)]; simp
    refine Spec_of_body hT Try.func68 rfl rfl rfl rfl ?_
    intro E hE
    repeat (first | refine AWd_step hT rfl rfl rfl (by first | exact True.intro | omega | exact sd) ?_ | refine AWk_step hT rfl rfl (by first | exact True.intro | omega | exact sd) ?_ | refine AWk_step0 hT rfl (by first | exact True.intro | omega | exact sd) ?_ | refine AWd_nil ?_ | refine AWk_nil ?_ | refine AWd_gstep hT rfl rfl rfl rfl rfl (by intro hg; first | exact ⟨True.intro, True.intro⟩ | exact sg hg) ?_ | refine AWk_gstep hT rfl rfl rfl rfl (by intro hg; first | exact ⟨True.intro, True.intro⟩ | exact sg hg) ?_ | refine AW_seq ?_ | refine AW_region ?_ | refine AW_draw mixed (by kernel_rfl) ?_ | refine AW_block ?_ | refine AW_skip ?_ | refine AW_exit ?_ | refine AW_ret ?_)
    refine AWk_op (callS1 rfl rfl hpk [0] (by decide) rfl rfl rfl rfl rfl rfl rfl) rfl ?_
    repeat (first | refine AWd_step hT rfl rfl rfl (by first | exact True.intro | omega | exact sd) ?_ | refine AWk_step hT rfl rfl (by first | exact True.intro | omega | exact sd) ?_ | refine AWk_step0 hT rfl (by first | exact True.intro | omega | exact sd) ?_ | refine AWd_nil ?_ | refine AWk_nil ?_ | refine AWd_gstep hT rfl rfl rfl rfl rfl (by intro hg; first | exact ⟨True.intro, True.intro⟩ | exact sg hg) ?_ | refine AWk_gstep hT rfl rfl rfl rfl (by intro hg; first | exact ⟨True.intro, True.intro⟩ | exact sg hg) ?_ | refine AW_seq ?_ | refine AW_region ?_ | refine AW_draw mixed (by kernel_rfl) ?_ | refine AW_block ?_ | refine AW_skip ?_ | refine AW_exit ?_ | refine AW_ret ?_)
    refine AW_condL rfl (fun h1 => ?_) (fun h1 => ?_)
    · have h1' : 0 ≤ bad := by simpa using h1
      rw [if_pos h1'] at hres
      repeat (first | refine AWd_step hT rfl rfl rfl (by first | exact True.intro | omega | exact sd) ?_ | refine AWk_step hT rfl rfl (by first | exact True.intro | omega | exact sd) ?_ | refine AWk_step0 hT rfl (by first | exact True.intro | omega | exact sd) ?_ | refine AWd_nil ?_ | refine AWk_nil ?_ | refine AWd_gstep hT rfl rfl rfl rfl rfl (by intro hg; first | exact ⟨True.intro, True.intro⟩ | exact sg hg) ?_ | refine AWk_gstep hT rfl rfl rfl rfl (by intro hg; first | exact ⟨True.intro, True.intro⟩ | exact sg hg) ?_ | refine AW_seq ?_ | refine AW_region ?_ | refine AW_draw mixed (by kernel_rfl) ?_ | refine AW_block ?_ | refine AW_skip ?_ | refine AW_exit ?_ | refine AW_ret ?_)
      subst hres
      exact ret_exact (r := cAV (.mk 0 0 0 [])) rfl (AV.le.agg ⟨.refl _, .refl _, .refl _, AV.le.dat, trivial⟩) rfl rfl rfl rfl ⟨rfl, rfl⟩
    · have h1' : ¬ 0 ≤ bad := by simpa using h1
      rw [if_neg h1'] at hres
      repeat (first | refine AWd_step hT rfl rfl rfl (by first | exact True.intro | omega | exact sd) ?_ | refine AWk_step hT rfl rfl (by first | exact True.intro | omega | exact sd) ?_ | refine AWk_step0 hT rfl (by first | exact True.intro | omega | exact sd) ?_ | refine AWd_nil ?_ | refine AWk_nil ?_ | refine AWd_gstep hT rfl rfl rfl rfl rfl (by intro hg; first | exact ⟨True.intro, True.intro⟩ | exact sg hg) ?_ | refine AWk_gstep hT rfl rfl rfl rfl (by intro hg; first | exact ⟨True.intro, True.intro⟩ | exact sg hg) ?_ | refine AW_seq ?_ | refine AW_region ?_ | refine AW_draw mixed (by kernel_rfl) ?_ | refine AW_block ?_ | refine AW_skip ?_ | refine AW_exit ?_ | refine AW_ret ?_)
      refine AW_condL rfl (fun h2 => ?_) (fun h2 => ?_)
      · have h2' : pk = notW := by simpa [notW] using h2
        rw [if_pos h2'] at hres
        have hlt := hplt (by rw [h2']; decide)
        have hS := ih (RS.inc ⟨i, en, bad⟩) (by show i + 1 ≤ _; omega) (by show _ - (i + 1) < _; omega)
        generalize atomR ws n (RS.inc ⟨i, en, bad⟩) = r at hS hres
        obtain ⟨⟨k, c, v, kids⟩, s2⟩ := r
        repeat (first | refine AWd_step hT rfl rfl rfl (by first | exact True.intro | omega | exact sd) ?_ | refine AWk_step hT rfl rfl (by first | exact True.intro | omega | exact sd) ?_ | refine AWk_step0 hT rfl (by first | exact True.intro | omega | exact sd) ?_ | refine AWd_nil ?_ | refine AWk_nil ?_ | refine AWd_gstep hT rfl rfl rfl rfl rfl (by intro hg; first | exact ⟨True.intro, True.intro⟩ | exact sg hg) ?_ | refine AWk_gstep hT rfl rfl rfl rfl (by intro hg; first | exact ⟨True.intro, True.intro⟩ | exact sg hg) ?_ | refine AW_seq ?_ | refine AW_region ?_ | refine AW_draw mixed (by kernel_rfl) ?_ | refine AW_block ?_ | refine AW_skip ?_ | refine AW_exit ?_ | refine AW_ret ?_)
        refine AWk_op (callS1 rfl rfl hS [0] (by decide) (by show [some (AObj.row [_, .d (.int .i64 (IntKind.i64.wrap ((i : Int) + 1))), _, _])] = _; rw [hwr]; rfl) rfl rfl (lowH_rsr 0 _ _) (lowH_rsr 0 _ _) (ren_cAV _ _) rfl) rfl ?_
        repeat (first | refine AWd_step hT rfl rfl rfl (by first | exact True.intro | omega | exact sd) ?_ | refine AWk_step hT rfl rfl (by first | exact True.intro | omega | exact sd) ?_ | refine AWk_step0 hT rfl (by first | exact True.intro | omega | exact sd) ?_ | refine AWd_nil ?_ | refine AWk_nil ?_ | refine AWd_gstep hT rfl rfl rfl rfl rfl (by intro hg; first | exact ⟨True.intro, True.intro⟩ | exact sg hg) ?_ | refine AWk_gstep hT rfl rfl rfl rfl (by intro hg; first | exact ⟨True.intro, True.intro⟩ | exact sg hg) ?_ | refine AW_seq ?_ | refine AW_region ?_ | refine AW_draw mixed (by kernel_rfl) ?_ | refine AW_block ?_ | refine AW_skip ?_ | refine AW_exit ?_ | refine AW_ret ?_)
        subst hres
        exact ret_exact (r := cAV (.mk 2 0 0 [.mk k c v kids])) rfl (AV.le.agg ⟨.refl _, .refl _, .refl _, AV.le.dat, trivial⟩) rfl rfl rfl (lowH_rsr _ _ _) ⟨rfl, rfl⟩
      · have h2' : ¬ pk = notW := by simpa [notW] using h2
        rw [if_neg h2'] at hres
        repeat (first | refine AWd_step hT rfl rfl rfl (by first | exact True.intro | omega | exact sd) ?_ | refine AWk_step hT rfl rfl (by first | exact True.intro | omega | exact sd) ?_ | refine AWk_step0 hT rfl (by first | exact True.intro | omega | exact sd) ?_ | refine AWd_nil ?_ | refine AWk_nil ?_ | refine AWd_gstep hT rfl rfl rfl rfl rfl (by intro hg; first | exact ⟨True.intro, True.intro⟩ | exact sg hg) ?_ | refine AWk_gstep hT rfl rfl rfl rfl (by intro hg; first | exact ⟨True.intro, True.intro⟩ | exact sg hg) ?_ | refine AW_seq ?_ | refine AW_region ?_ | refine AW_draw mixed (by kernel_rfl) ?_ | refine AW_block ?_ | refine AW_skip ?_ | refine AW_exit ?_ | refine AW_ret ?_)
        refine AW_condL rfl (fun h3 => ?_) (fun h3 => ?_)
        · have h3' : pk = lpW := by simpa [lpW] using h3
          rw [if_pos h3'] at hres
          have hlt := hplt (by rw [h3']; decide)
          have hS := hc (RS.inc ⟨i, en, bad⟩) (by show i + 1 ≤ _; omega) (by show _ - (i + 1) < _; omega)
          obtain ⟨q1, q2, q3⟩ := hcok.inv (RS.inc ⟨i, en, bad⟩) (by show i + 1 ≤ _; omega) (by show _ - (i + 1) < _; omega)
          generalize condR' ws n (RS.inc ⟨i, en, bad⟩) = r at hS q1 q2 q3 hres
          obtain ⟨⟨k, c, v, kids⟩, s2⟩ := r
          simp only at hS q1 q2 q3 hres
          have htake := take_spec ws s2 rpW (by omega)
          generalize takeR ws s2 rpW = s3 at htake hres
          repeat (first | refine AWd_step hT rfl rfl rfl (by first | exact True.intro | omega | exact sd) ?_ | refine AWk_step hT rfl rfl (by first | exact True.intro | omega | exact sd) ?_ | refine AWk_step0 hT rfl (by first | exact True.intro | omega | exact sd) ?_ | refine AWd_nil ?_ | refine AWk_nil ?_ | refine AWd_gstep hT rfl rfl rfl rfl rfl (by intro hg; first | exact ⟨True.intro, True.intro⟩ | exact sg hg) ?_ | refine AWk_gstep hT rfl rfl rfl rfl (by intro hg; first | exact ⟨True.intro, True.intro⟩ | exact sg hg) ?_ | refine AW_seq ?_ | refine AW_region ?_ | refine AW_draw mixed (by kernel_rfl) ?_ | refine AW_block ?_ | refine AW_skip ?_ | refine AW_exit ?_ | refine AW_ret ?_)
          refine AWk_op (callS1 rfl rfl hS [0] (by decide) (by show [some (AObj.row [_, .d (.int .i64 (IntKind.i64.wrap ((i : Int) + 1))), _, _])] = _; rw [hwr]; rfl) rfl rfl (lowH_rsr 0 _ _) (lowH_rsr 0 _ _) (ren_cAV _ _) rfl) rfl ?_
          repeat (first | refine AWd_step hT rfl rfl rfl (by first | exact True.intro | omega | exact sd) ?_ | refine AWk_step hT rfl rfl (by first | exact True.intro | omega | exact sd) ?_ | refine AWk_step0 hT rfl (by first | exact True.intro | omega | exact sd) ?_ | refine AWd_nil ?_ | refine AWk_nil ?_ | refine AWd_gstep hT rfl rfl rfl rfl rfl (by intro hg; first | exact ⟨True.intro, True.intro⟩ | exact sg hg) ?_ | refine AWk_gstep hT rfl rfl rfl rfl (by intro hg; first | exact ⟨True.intro, True.intro⟩ | exact sg hg) ?_ | refine AW_seq ?_ | refine AW_region ?_ | refine AW_draw mixed (by kernel_rfl) ?_ | refine AW_block ?_ | refine AW_skip ?_ | refine AW_exit ?_ | refine AW_ret ?_)
          refine AWk_op (callS1 rfl rfl htake [0] (by decide) rfl rfl rfl (lowH_rsr 0 _ _) (lowH_rsr 0 _ _) rfl rfl) rfl ?_
          repeat (first | refine AWd_step hT rfl rfl rfl (by first | exact True.intro | omega | exact sd) ?_ | refine AWk_step hT rfl rfl (by first | exact True.intro | omega | exact sd) ?_ | refine AWk_step0 hT rfl (by first | exact True.intro | omega | exact sd) ?_ | refine AWd_nil ?_ | refine AWk_nil ?_ | refine AWd_gstep hT rfl rfl rfl rfl rfl (by intro hg; first | exact ⟨True.intro, True.intro⟩ | exact sg hg) ?_ | refine AWk_gstep hT rfl rfl rfl rfl (by intro hg; first | exact ⟨True.intro, True.intro⟩ | exact sg hg) ?_ | refine AW_seq ?_ | refine AW_region ?_ | refine AW_draw mixed (by kernel_rfl) ?_ | refine AW_block ?_ | refine AW_skip ?_ | refine AW_exit ?_ | refine AW_ret ?_)
          subst hres
          exact ret_exact (r := cAV (.mk k c v kids)) rfl (.refl _) rfl rfl rfl (lowH_rsr _ _ _) ⟨rfl, rfl⟩
        · have h3' : ¬ pk = lpW := by simpa [lpW] using h3
          rw [if_neg h3'] at hres
          have hfb := sIdx_bound chk pk
          repeat (first | refine AWd_step hT rfl rfl rfl (by first | exact True.intro | omega | exact sd) ?_ | refine AWk_step hT rfl rfl (by first | exact True.intro | omega | exact sd) ?_ | refine AWk_step0 hT rfl (by first | exact True.intro | omega | exact sd) ?_ | refine AWd_nil ?_ | refine AWk_nil ?_ | refine AWd_gstep hT rfl rfl rfl rfl rfl (by intro hg; first | exact ⟨True.intro, True.intro⟩ | exact sg hg) ?_ | refine AWk_gstep hT rfl rfl rfl rfl (by intro hg; first | exact ⟨True.intro, True.intro⟩ | exact sg hg) ?_ | refine AW_seq ?_ | refine AW_region ?_ | refine AW_draw mixed (by kernel_rfl) ?_ | refine AW_block ?_ | refine AW_skip ?_ | refine AW_exit ?_ | refine AW_ret ?_)
          refine AWk_op (callS0 rfl rfl checks_spec rfl rfl rfl) rfl ?_
          repeat (first | refine AWd_step hT rfl rfl rfl (by first | exact True.intro | omega | exact sd) ?_ | refine AWk_step hT rfl rfl (by first | exact True.intro | omega | exact sd) ?_ | refine AWk_step0 hT rfl (by first | exact True.intro | omega | exact sd) ?_ | refine AWd_nil ?_ | refine AWk_nil ?_ | refine AWd_gstep hT rfl rfl rfl rfl rfl (by intro hg; first | exact ⟨True.intro, True.intro⟩ | exact sg hg) ?_ | refine AWk_gstep hT rfl rfl rfl rfl (by intro hg; first | exact ⟨True.intro, True.intro⟩ | exact sg hg) ?_ | refine AW_seq ?_ | refine AW_region ?_ | refine AW_draw mixed (by kernel_rfl) ?_ | refine AW_block ?_ | refine AW_skip ?_ | refine AW_exit ?_ | refine AW_ret ?_)
          refine AWk_op (callS0 rfl rfl (find_spec [] chk pk (by decide)) rfl rfl rfl) rfl ?_
          repeat (first | refine AWd_step hT rfl rfl rfl (by first | exact True.intro | omega | exact sd) ?_ | refine AWk_step hT rfl rfl (by first | exact True.intro | omega | exact sd) ?_ | refine AWk_step0 hT rfl (by first | exact True.intro | omega | exact sd) ?_ | refine AWd_nil ?_ | refine AWk_nil ?_ | refine AWd_gstep hT rfl rfl rfl rfl rfl (by intro hg; first | exact ⟨True.intro, True.intro⟩ | exact sg hg) ?_ | refine AWk_gstep hT rfl rfl rfl rfl (by intro hg; first | exact ⟨True.intro, True.intro⟩ | exact sg hg) ?_ | refine AW_seq ?_ | refine AW_region ?_ | refine AW_draw mixed (by kernel_rfl) ?_ | refine AW_block ?_ | refine AW_skip ?_ | refine AW_exit ?_ | refine AW_ret ?_)
          refine AW_condL rfl (fun h4 => ?_) (fun h4 => ?_)
          · have h4' : sIdx chk pk + 1 = 0 := by simpa using h4
            rw [if_pos h4'] at hres
            repeat (first | refine AWd_step hT rfl rfl rfl (by first | exact True.intro | omega | exact sd) ?_ | refine AWk_step hT rfl rfl (by first | exact True.intro | omega | exact sd) ?_ | refine AWk_step0 hT rfl (by first | exact True.intro | omega | exact sd) ?_ | refine AWd_nil ?_ | refine AWk_nil ?_ | refine AWd_gstep hT rfl rfl rfl rfl rfl (by intro hg; first | exact ⟨True.intro, True.intro⟩ | exact sg hg) ?_ | refine AWk_gstep hT rfl rfl rfl rfl (by intro hg; first | exact ⟨True.intro, True.intro⟩ | exact sg hg) ?_ | refine AW_seq ?_ | refine AW_region ?_ | refine AW_draw mixed (by kernel_rfl) ?_ | refine AW_block ?_ | refine AW_skip ?_ | refine AW_exit ?_ | refine AW_ret ?_)
            refine AWk_op (callS1 rfl rfl hfl [0] (by decide) rfl rfl rfl (lowH_rsr 0 _ _) (lowH_rsr 0 _ _) rfl rfl) rfl ?_
            repeat (first | refine AWd_step hT rfl rfl rfl (by first | exact True.intro | omega | exact sd) ?_ | refine AWk_step hT rfl rfl (by first | exact True.intro | omega | exact sd) ?_ | refine AWk_step0 hT rfl (by first | exact True.intro | omega | exact sd) ?_ | refine AWd_nil ?_ | refine AWk_nil ?_ | refine AWd_gstep hT rfl rfl rfl rfl rfl (by intro hg; first | exact ⟨True.intro, True.intro⟩ | exact sg hg) ?_ | refine AWk_gstep hT rfl rfl rfl rfl (by intro hg; first | exact ⟨True.intro, True.intro⟩ | exact sg hg) ?_ | refine AW_seq ?_ | refine AW_region ?_ | refine AW_draw mixed (by kernel_rfl) ?_ | refine AW_block ?_ | refine AW_skip ?_ | refine AW_exit ?_ | refine AW_ret ?_)
            subst hres
            exact ret_exact (r := cAV (.mk 0 0 0 [])) rfl (AV.le.agg ⟨.refl _, .refl _, .refl _, AV.le.dat, trivial⟩) rfl rfl rfl (lowH_rsr _ _ _) ⟨rfl, rfl⟩
          · have h4' : ¬ sIdx chk pk + 1 = 0 := by simpa using h4
            rw [if_neg h4'] at hres
            have hlt := hplt (by intro hz; rw [hz] at h4'; exact h4' (by decide))
            have hpk1 := peek_spec ws (RS.inc ⟨i, en, bad⟩)
            have hplt1 := peekR_lt (ws := ws) (s := RS.inc ⟨i, en, bad⟩)
            generalize peekR ws (RS.inc ⟨i, en, bad⟩) = pk1 at hpk1 hplt1 hres
            repeat (first | refine AW_exit ?_ | refine AW_skip ?_)
            repeat (first | refine AWd_step hT rfl rfl rfl (by first | exact True.intro | omega | exact sd) ?_ | refine AWk_step hT rfl rfl (by first | exact True.intro | omega | exact sd) ?_ | refine AWk_step0 hT rfl (by first | exact True.intro | omega | exact sd) ?_ | refine AWd_nil ?_ | refine AWk_nil ?_ | refine AWd_gstep hT rfl rfl rfl rfl rfl (by intro hg; first | exact ⟨True.intro, True.intro⟩ | exact sg hg) ?_ | refine AWk_gstep hT rfl rfl rfl rfl (by intro hg; first | exact ⟨True.intro, True.intro⟩ | exact sg hg) ?_ | refine AW_seq ?_ | refine AW_region ?_ | refine AW_draw mixed (by kernel_rfl) ?_ | refine AW_block ?_ | refine AW_skip ?_ | refine AW_exit ?_ | refine AW_ret ?_)
            refine AWk_op (callS0 rfl rfl checks_spec rfl rfl rfl) rfl ?_
            repeat (first | refine AWd_step hT rfl rfl rfl (by first | exact True.intro | omega | exact sd) ?_ | refine AWk_step hT rfl rfl (by first | exact True.intro | omega | exact sd) ?_ | refine AWk_step0 hT rfl (by first | exact True.intro | omega | exact sd) ?_ | refine AWd_nil ?_ | refine AWk_nil ?_ | refine AWd_gstep hT rfl rfl rfl rfl rfl (by intro hg; first | exact ⟨True.intro, True.intro⟩ | exact sg hg) ?_ | refine AWk_gstep hT rfl rfl rfl rfl (by intro hg; first | exact ⟨True.intro, True.intro⟩ | exact sg hg) ?_ | refine AW_seq ?_ | refine AW_region ?_ | refine AW_draw mixed (by kernel_rfl) ?_ | refine AW_block ?_ | refine AW_skip ?_ | refine AW_exit ?_ | refine AW_ret ?_)
            refine AWk_op (callS0 rfl rfl (find_spec [] chk pk (by decide)) rfl rfl rfl) rfl ?_
            repeat (first | refine AWd_step hT rfl rfl rfl (by first | exact True.intro | omega | exact sd) ?_ | refine AWk_step hT rfl rfl (by first | exact True.intro | omega | exact sd) ?_ | refine AWk_step0 hT rfl (by first | exact True.intro | omega | exact sd) ?_ | refine AWd_nil ?_ | refine AWk_nil ?_ | refine AWd_gstep hT rfl rfl rfl rfl rfl (by intro hg; first | exact ⟨True.intro, True.intro⟩ | exact sg hg) ?_ | refine AWk_gstep hT rfl rfl rfl rfl (by intro hg; first | exact ⟨True.intro, True.intro⟩ | exact sg hg) ?_ | refine AW_seq ?_ | refine AW_region ?_ | refine AW_draw mixed (by kernel_rfl) ?_ | refine AW_block ?_ | refine AW_skip ?_ | refine AW_exit ?_ | refine AW_ret ?_)
            refine AWk_op (callS1 rfl rfl hpk1 [0] (by decide) (by show [some (AObj.row [_, .d (.int .i64 (IntKind.i64.wrap ((i : Int) + 1))), _, _])] = _; rw [hwr]; rfl) rfl rfl rfl rfl rfl rfl) rfl ?_
            repeat (first | refine AWd_step hT rfl rfl rfl (by first | exact True.intro | omega | exact sd) ?_ | refine AWk_step hT rfl rfl (by first | exact True.intro | omega | exact sd) ?_ | refine AWk_step0 hT rfl (by first | exact True.intro | omega | exact sd) ?_ | refine AWd_nil ?_ | refine AWk_nil ?_ | refine AWd_gstep hT rfl rfl rfl rfl rfl (by intro hg; first | exact ⟨True.intro, True.intro⟩ | exact sg hg) ?_ | refine AWk_gstep hT rfl rfl rfl rfl (by intro hg; first | exact ⟨True.intro, True.intro⟩ | exact sg hg) ?_ | refine AW_seq ?_ | refine AW_region ?_ | refine AW_draw mixed (by kernel_rfl) ?_ | refine AW_block ?_ | refine AW_skip ?_ | refine AW_exit ?_ | refine AW_ret ?_)
            refine AW_condL rfl (fun h5 => ?_) (fun h5 => ?_)
            · have h5' : pk1 = isW := by simpa [isW] using h5
              rw [if_pos h5'] at hres
              have hlt1 : i + 1 < ws.length := hplt1 (by rw [h5']; decide)
              have hwr2 : IntKind.i64.wrap (((i + 1 : Nat) : Int) + 1) = ((i + 1 + 1 : Nat) : Int) := by rw [wrap_id (by omega)]; simp
              have hpk2 := peek_spec ws (RS.inc (RS.inc ⟨i, en, bad⟩))
              have hfl2 := fail_spec ws (RS.inc (RS.inc ⟨i, en, bad⟩))
              have hfi := failR_i ws (RS.inc (RS.inc ⟨i, en, bad⟩))
              generalize peekR ws (RS.inc (RS.inc ⟨i, en, bad⟩)) = pk2 at hpk2 hres
              generalize failR ws (RS.inc (RS.inc ⟨i, en, bad⟩)) = f at hfl2 hfi hres
              obtain ⟨fi, fen, fbad⟩ := f
              have hfi' : fi = i + 1 + 1 := hfi
              subst hfi'
              have hwr3 : IntKind.i64.wrap (((i + 1 + 1 : Nat) : Int) + 1) = ((i + 1 + 1 + 1 : Nat) : Int) := by rw [wrap_id (by omega)]; simp
              repeat (first | refine AWd_step hT rfl rfl rfl (by first | exact True.intro | omega | exact sd) ?_ | refine AWk_step hT rfl rfl (by first | exact True.intro | omega | exact sd) ?_ | refine AWk_step0 hT rfl (by first | exact True.intro | omega | exact sd) ?_ | refine AWd_nil ?_ | refine AWk_nil ?_ | refine AWd_gstep hT rfl rfl rfl rfl rfl (by intro hg; first | exact ⟨True.intro, True.intro⟩ | exact sg hg) ?_ | refine AWk_gstep hT rfl rfl rfl rfl (by intro hg; first | exact ⟨True.intro, True.intro⟩ | exact sg hg) ?_ | refine AW_seq ?_ | refine AW_region ?_ | refine AW_draw mixed (by kernel_rfl) ?_ | refine AW_block ?_ | refine AW_skip ?_ | refine AW_exit ?_ | refine AW_ret ?_)
              refine AWk_op (callS0 rfl rfl values_spec rfl rfl rfl) rfl ?_
              repeat (first | refine AWd_step hT rfl rfl rfl (by first | exact True.intro | omega | exact sd) ?_ | refine AWk_step hT rfl rfl (by first | exact True.intro | omega | exact sd) ?_ | refine AWk_step0 hT rfl (by first | exact True.intro | omega | exact sd) ?_ | refine AWd_nil ?_ | refine AWk_nil ?_ | refine AWd_gstep hT rfl rfl rfl rfl rfl (by intro hg; first | exact ⟨True.intro, True.intro⟩ | exact sg hg) ?_ | refine AWk_gstep hT rfl rfl rfl rfl (by intro hg; first | exact ⟨True.intro, True.intro⟩ | exact sg hg) ?_ | refine AW_seq ?_ | refine AW_region ?_ | refine AW_draw mixed (by kernel_rfl) ?_ | refine AW_block ?_ | refine AW_skip ?_ | refine AW_exit ?_ | refine AW_ret ?_)
              refine AWk_op (callS1 rfl rfl hpk2 [0] (by decide) (by show [some (AObj.row [_, .d (.int .i64 (IntKind.i64.wrap (((i + 1 : Nat) : Int) + 1))), _, _])] = _; rw [hwr2]; rfl) rfl rfl rfl rfl rfl rfl) rfl ?_
              refine AWk_op (callS0 rfl rfl (find_spec [] vls pk2 (by decide)) rfl rfl rfl) rfl ?_
              repeat (first | refine AWd_step hT rfl rfl rfl (by first | exact True.intro | omega | exact sd) ?_ | refine AWk_step hT rfl rfl (by first | exact True.intro | omega | exact sd) ?_ | refine AWk_step0 hT rfl (by first | exact True.intro | omega | exact sd) ?_ | refine AWd_nil ?_ | refine AWk_nil ?_ | refine AWd_gstep hT rfl rfl rfl rfl rfl (by intro hg; first | exact ⟨True.intro, True.intro⟩ | exact sg hg) ?_ | refine AWk_gstep hT rfl rfl rfl rfl (by intro hg; first | exact ⟨True.intro, True.intro⟩ | exact sg hg) ?_ | refine AW_seq ?_ | refine AW_region ?_ | refine AW_draw mixed (by kernel_rfl) ?_ | refine AW_block ?_ | refine AW_skip ?_ | refine AW_exit ?_ | refine AW_ret ?_)
              refine AW_condL rfl (fun h6 => ?_) (fun h6 => ?_)
              · have h6' : sIdx vls pk2 + 1 = 0 := by simpa using h6
                rw [if_pos h6'] at hres
                repeat (first | refine AWd_step hT rfl rfl rfl (by first | exact True.intro | omega | exact sd) ?_ | refine AWk_step hT rfl rfl (by first | exact True.intro | omega | exact sd) ?_ | refine AWk_step0 hT rfl (by first | exact True.intro | omega | exact sd) ?_ | refine AWd_nil ?_ | refine AWk_nil ?_ | refine AWd_gstep hT rfl rfl rfl rfl rfl (by intro hg; first | exact ⟨True.intro, True.intro⟩ | exact sg hg) ?_ | refine AWk_gstep hT rfl rfl rfl rfl (by intro hg; first | exact ⟨True.intro, True.intro⟩ | exact sg hg) ?_ | refine AW_seq ?_ | refine AW_region ?_ | refine AW_draw mixed (by kernel_rfl) ?_ | refine AW_block ?_ | refine AW_skip ?_ | refine AW_exit ?_ | refine AW_ret ?_)
                refine AWk_op (callS1 rfl rfl hfl2 [0] (by decide) rfl rfl rfl (lowH_rsr 0 _ _) (lowH_rsr 0 _ _) rfl rfl) rfl ?_
                repeat (first | refine AWd_step hT rfl rfl rfl (by first | exact True.intro | omega | exact sd) ?_ | refine AWk_step hT rfl rfl (by first | exact True.intro | omega | exact sd) ?_ | refine AWk_step0 hT rfl (by first | exact True.intro | omega | exact sd) ?_ | refine AWd_nil ?_ | refine AWk_nil ?_ | refine AWd_gstep hT rfl rfl rfl rfl rfl (by intro hg; first | exact ⟨True.intro, True.intro⟩ | exact sg hg) ?_ | refine AWk_gstep hT rfl rfl rfl rfl (by intro hg; first | exact ⟨True.intro, True.intro⟩ | exact sg hg) ?_ | refine AW_seq ?_ | refine AW_region ?_ | refine AW_draw mixed (by kernel_rfl) ?_ | refine AW_block ?_ | refine AW_skip ?_ | refine AW_exit ?_ | refine AW_ret ?_)
                subst hres
                refine ret_exact (r := cAV (.mk 1 (sIdx chk pk + 1) (sIdx vls pk2 + 1) [])) rfl (AV.le.agg ⟨.refl _, .refl _, .refl _, AV.le.dat, trivial⟩) rfl rfl rfl rfl ⟨rfl, ?_⟩
                show [AObj.row [_, .d (.int .i64 (IntKind.i64.wrap (((i + 1 + 1 : Nat) : Int) + 1))), _, _]] = _
                rw [hwr3]; rfl
              · have h6' : ¬ sIdx vls pk2 + 1 = 0 := by simpa using h6
                rw [if_neg h6'] at hres
                repeat (first | refine AWd_step hT rfl rfl rfl (by first | exact True.intro | omega | exact sd) ?_ | refine AWk_step hT rfl rfl (by first | exact True.intro | omega | exact sd) ?_ | refine AWk_step0 hT rfl (by first | exact True.intro | omega | exact sd) ?_ | refine AWd_nil ?_ | refine AWk_nil ?_ | refine AWd_gstep hT rfl rfl rfl rfl rfl (by intro hg; first | exact ⟨True.intro, True.intro⟩ | exact sg hg) ?_ | refine AWk_gstep hT rfl rfl rfl rfl (by intro hg; first | exact ⟨True.intro, True.intro⟩ | exact sg hg) ?_ | refine AW_seq ?_ | refine AW_region ?_ | refine AW_draw mixed (by kernel_rfl) ?_ | refine AW_block ?_ | refine AW_skip ?_ | refine AW_exit ?_ | refine AW_ret ?_)
                subst hres
                refine ret_exact (r := cAV (.mk 1 (sIdx chk pk + 1) (sIdx vls pk2 + 1) [])) rfl (AV.le.agg ⟨.refl _, .refl _, .refl _, AV.le.dat, trivial⟩) rfl rfl rfl rfl ⟨rfl, ?_⟩
                show [AObj.row [_, .d (.int .i64 (IntKind.i64.wrap (((i + 1 + 1 : Nat) : Int) + 1))), _, _]] = _
                rw [hwr3]; rfl
            · have h5' : ¬ pk1 = isW := by simpa [isW] using h5
              rw [if_neg h5'] at hres
              repeat (first | refine AWd_step hT rfl rfl rfl (by first | exact True.intro | omega | exact sd) ?_ | refine AWk_step hT rfl rfl (by first | exact True.intro | omega | exact sd) ?_ | refine AWk_step0 hT rfl (by first | exact True.intro | omega | exact sd) ?_ | refine AWd_nil ?_ | refine AWk_nil ?_ | refine AWd_gstep hT rfl rfl rfl rfl rfl (by intro hg; first | exact ⟨True.intro, True.intro⟩ | exact sg hg) ?_ | refine AWk_gstep hT rfl rfl rfl rfl (by intro hg; first | exact ⟨True.intro, True.intro⟩ | exact sg hg) ?_ | refine AW_seq ?_ | refine AW_region ?_ | refine AW_draw mixed (by kernel_rfl) ?_ | refine AW_block ?_ | refine AW_skip ?_ | refine AW_exit ?_ | refine AW_ret ?_)
              subst hres
              exact ret_exact (r := cAV (.mk 1 (sIdx chk pk + 1) 1 [])) rfl (AV.le.agg ⟨.refl _, .refl _, .refl _, AV.le.dat, trivial⟩) rfl rfl rfl rfl ⟨rfl, rfl⟩

theorem condAll_spec {ws : List Wd} (hl : ws.length ≤ 1000000) {n : Nat} (hn : n ≤ 1000001) : PSpec ws n 29 (condR' ws n) :=
  condR'_spec hl hn (conjR_spec hl hn (atomR_spec hl n hn))
end Tdoc
/- The reference: a condition and a policy are the same as themselves. -/
set_option linter.unusedVariables false
set_option linter.unusedSimpArgs false
namespace Tdoc
open Go Go.Proofs

set_option maxHeartbeats 4000000 in
set_option maxRecDepth 100000 in
theorem SameCond_spec : ∀ (c : Cond), smallC c → Spec Try.prog 32 [cAV c, cAV c] [] (fun r h' => r = .d (.bool true) ∧ h' = [])
  | .mk k c v kids, hs => by
    have ih : ∀ x, x ∈ kids → Spec Try.prog 32 [cAV x, cAV x] [] (fun r h' => r = .d (.bool true) ∧ h' = []) := fun x hx => SameCond_spec x (smallCs_at hs.2 x hx)
    have hlen := encCs_length kids
    have hs1 := hs.1
    refine Spec_of_body hT Try.func32 rfl rfl rfl rfl ?_
    intro E hE
    repeat (first | refine AWd_step hT rfl rfl rfl (by first | exact True.intro | omega | exact sd) ?_ | refine AWk_step hT rfl rfl (by first | exact True.intro | omega | exact sd) ?_ | refine AWk_step0 hT rfl (by first | exact True.intro | omega | exact sd) ?_ | refine AWd_nil ?_ | refine AWk_nil ?_ | refine AWd_gstep hT rfl rfl rfl rfl rfl (by intro hg; first | exact ⟨True.intro, True.intro⟩ | exact sg hg) ?_ | refine AWk_gstep hT rfl rfl rfl rfl (by intro hg; first | exact ⟨True.intro, True.intro⟩ | exact sg hg) ?_ | refine AW_seq ?_ | refine AW_region ?_ | refine AW_draw mixed (by kernel_rfl) ?_ | refine AW_block ?_ | refine AW_skip ?_ | refine AW_exit ?_ | refine AW_ret ?_)
    refine AW_condL rfl (fun hf => by simp at hf) (fun _ => ?_)
    repeat (first | refine AWd_step hT rfl rfl rfl (by first | exact True.intro | omega | exact sd) ?_ | refine AWk_step hT rfl rfl (by first | exact True.intro | omega | exact sd) ?_ | refine AWk_step0 hT rfl (by first | exact True.intro | omega | exact sd) ?_ | refine AWd_nil ?_ | refine AWk_nil ?_ | refine AWd_gstep hT rfl rfl rfl rfl rfl (by intro hg; first | exact ⟨True.intro, True.intro⟩ | exact sg hg) ?_ | refine AWk_gstep hT rfl rfl rfl rfl (by intro hg; first | exact ⟨True.intro, True.intro⟩ | exact sg hg) ?_ | refine AW_seq ?_ | refine AW_region ?_ | refine AW_draw mixed (by kernel_rfl) ?_ | refine AW_block ?_ | refine AW_skip ?_ | refine AW_exit ?_ | refine AW_ret ?_)
    refine AW_loopL (ι := Nat) (fun j => [(2, .ptr 0 0), (3, .ptr 1 0), (5, .d (.int .i64 j))])
      (fun _ => [.row [.d (.int .i64 k), .d (.int .i64 c), .d (.int .i64 v), .d (.sl 4 (encCs kids))], .row [.d (.int .i64 k), .d (.int .i64 c), .d (.int .i64 v), .d (.sl 4 (encCs kids))]])
      (fun j => j ≤ kids.length) (fun j => kids.length - j) 0 (by omega) ⟨.refl _, .refl _, .refl _, trivial⟩ (HLe.refl _) ?_
    intro j hj
    repeat (first | refine AWd_step hT rfl rfl rfl (by first | exact True.intro | omega | exact sd) ?_ | refine AWk_step hT rfl rfl (by first | exact True.intro | omega | exact sd) ?_ | refine AWk_step0 hT rfl (by first | exact True.intro | omega | exact sd) ?_ | refine AWd_nil ?_ | refine AWk_nil ?_ | refine AWd_gstep hT rfl rfl rfl rfl rfl (by intro hg; first | exact ⟨True.intro, True.intro⟩ | exact sg hg) ?_ | refine AWk_gstep hT rfl rfl rfl rfl (by intro hg; first | exact ⟨True.intro, True.intro⟩ | exact sg hg) ?_ | refine AW_seq ?_ | refine AW_region ?_ | refine AW_draw mixed (by kernel_rfl) ?_ | refine AW_block ?_ | refine AW_skip ?_ | refine AW_exit ?_ | refine AW_ret ?_)
    refine AW_condL rfl (fun h1 => ?_) (fun h1 => ?_)
    · have hlt : j < kids.length := by rw [hlen] at h1; simpa using h1
      have hel : (encCs kids)[((j : Int)).toNat]? = some (encC kids[j]) := by simp [encCs_eq, hlt]
      have hx := ih kids[j] (List.getElem_mem hlt)
      generalize kids[j] = x at hel hx
      obtain ⟨xk, xc, xv, xkids⟩ := x
      have hwr : IntKind.i64.wrap ((j : Int) + 1) = ((j + 1 : Nat) : Int) := by rw [wrap_id (by omega)]; simp
      repeat (first | refine AWd_step hT rfl rfl rfl (by first | exact True.intro | omega | exact sd) ?_ | refine AWk_step hT rfl rfl (by first | exact True.intro | omega | exact sd) ?_ | refine AWk_step0 hT rfl (by first | exact True.intro | omega | exact sd) ?_ | refine AWd_nil ?_ | refine AWk_nil ?_ | refine AWd_gstep hT rfl rfl rfl rfl rfl (by intro hg; first | exact ⟨True.intro, True.intro⟩ | exact sg hg) ?_ | refine AWk_gstep hT rfl rfl rfl rfl (by intro hg; first | exact ⟨True.intro, True.intro⟩ | exact sg hg) ?_ | refine AW_seq ?_ | refine AW_region ?_ | refine AW_draw mixed (by kernel_rfl) ?_ | refine AW_block ?_ | refine AW_skip ?_ | refine AW_exit ?_ | refine AW_ret ?_)
      refine AWd_op (OpS_of_pure (indexAddr_ok hT rfl rfl rfl rfl (by omega) hel)) rfl rfl ?_
      repeat (first | refine AWd_step hT rfl rfl rfl (by first | exact True.intro | omega | exact sd) ?_ | refine AWk_step hT rfl rfl (by first | exact True.intro | omega | exact sd) ?_ | refine AWk_step0 hT rfl (by first | exact True.intro | omega | exact sd) ?_ | refine AWd_nil ?_ | refine AWk_nil ?_ | refine AWd_gstep hT rfl rfl rfl rfl rfl (by intro hg; first | exact ⟨True.intro, True.intro⟩ | exact sg hg) ?_ | refine AWk_gstep hT rfl rfl rfl rfl (by intro hg; first | exact ⟨True.intro, True.intro⟩ | exact sg hg) ?_ | refine AW_seq ?_ | refine AW_region ?_ | refine AW_draw mixed (by kernel_rfl) ?_ | refine AW_block ?_ | refine AW_skip ?_ | refine AW_exit ?_ | refine AW_ret ?_)
      refine AWd_op (OpS_of_pure (indexAddr_ok hT rfl rfl rfl rfl (by omega) hel)) rfl rfl ?_
      repeat (first | refine AWd_step hT rfl rfl rfl (by first | exact True.intro | omega | exact sd) ?_ | refine AWk_step hT rfl rfl (by first | exact True.intro | omega | exact sd) ?_ | refine AWk_step0 hT rfl (by first | exact True.intro | omega | exact sd) ?_ | refine AWd_nil ?_ | refine AWk_nil ?_ | refine AWd_gstep hT rfl rfl rfl rfl rfl (by intro hg; first | exact ⟨True.intro, True.intro⟩ | exact sg hg) ?_ | refine AWk_gstep hT rfl rfl rfl rfl (by intro hg; first | exact ⟨True.intro, True.intro⟩ | exact sg hg) ?_ | refine AW_seq ?_ | refine AW_region ?_ | refine AW_draw mixed (by kernel_rfl) ?_ | refine AW_block ?_ | refine AW_skip ?_ | refine AW_exit ?_ | refine AW_ret ?_)
      refine AWd_op (callS0 rfl rfl hx rfl rfl rfl) rfl rfl ?_
      repeat (first | refine AWd_step hT rfl rfl rfl (by first | exact True.intro | omega | exact sd) ?_ | refine AWk_step hT rfl rfl (by first | exact True.intro | omega | exact sd) ?_ | refine AWk_step0 hT rfl (by first | exact True.intro | omega | exact sd) ?_ | refine AWd_nil ?_ | refine AWk_nil ?_ | refine AWd_gstep hT rfl rfl rfl rfl rfl (by intro hg; first | exact ⟨True.intro, True.intro⟩ | exact sg hg) ?_ | refine AWk_gstep hT rfl rfl rfl rfl (by intro hg; first | exact ⟨True.intro, True.intro⟩ | exact sg hg) ?_ | refine AW_seq ?_ | refine AW_region ?_ | refine AW_draw mixed (by kernel_rfl) ?_ | refine AW_block ?_ | refine AW_skip ?_ | refine AW_exit ?_ | refine AW_ret ?_)
      refine AW_condL rfl (fun hf => by simp at hf) (fun _ => ?_)
      repeat (first | refine AWd_step hT rfl rfl rfl (by first | exact True.intro | omega | exact sd) ?_ | refine AWk_step hT rfl rfl (by first | exact True.intro | omega | exact sd) ?_ | refine AWk_step0 hT rfl (by first | exact True.intro | omega | exact sd) ?_ | refine AWd_nil ?_ | refine AWk_nil ?_ | refine AWd_gstep hT rfl rfl rfl rfl rfl (by intro hg; first | exact ⟨True.intro, True.intro⟩ | exact sg hg) ?_ | refine AWk_gstep hT rfl rfl rfl rfl (by intro hg; first | exact ⟨True.intro, True.intro⟩ | exact sg hg) ?_ | refine AW_seq ?_ | refine AW_region ?_ | refine AW_draw mixed (by kernel_rfl) ?_ | refine AW_block ?_ | refine AW_skip ?_ | refine AW_exit ?_ | refine AW_ret ?_)
      exact ⟨j + 1, by omega, by omega, ⟨.refl _, .refl _, AV.le.eq (by show AV.d (.int .i64 (IntKind.i64.wrap ((j : Int) + 1))) = _; rw [hwr]), trivial⟩, HLe.refl _⟩
    · repeat (first | refine AWd_step hT rfl rfl rfl (by first | exact True.intro | omega | exact sd) ?_ | refine AWk_step hT rfl rfl (by first | exact True.intro | omega | exact sd) ?_ | refine AWk_step0 hT rfl (by first | exact True.intro | omega | exact sd) ?_ | refine AWd_nil ?_ | refine AWk_nil ?_ | refine AWd_gstep hT rfl rfl rfl rfl rfl (by intro hg; first | exact ⟨True.intro, True.intro⟩ | exact sg hg) ?_ | refine AWk_gstep hT rfl rfl rfl rfl (by intro hg; first | exact ⟨True.intro, True.intro⟩ | exact sg hg) ?_ | refine AW_seq ?_ | refine AW_region ?_ | refine AW_draw mixed (by kernel_rfl) ?_ | refine AW_block ?_ | refine AW_skip ?_ | refine AW_exit ?_ | refine AW_ret ?_)
      exact ret_exact rfl (.refl _) rfl rfl rfl rfl ⟨rfl, rfl⟩
termination_by c => sizeOf c
decreasing_by
  have := List.sizeOf_lt_of_mem hx
  simp only [Cond.mk.sizeOf_spec]
  omega

set_option maxHeartbeats 4000000 in
set_option maxRecDepth 100000 in
theorem Same_spec (l : List Rule) (hl : l.length ≤ 1000000) (hs : ∀ r, r ∈ l → smallC (condR r)) : Spec Try.prog 10 [polAV l, polAV l] [] (fun r h' => r = .d (.bool true) ∧ h' = []) := by
  have hlen : (encRs l).length = l.length := by simp [encRs]
  refine Spec_of_body hT Try.func10 rfl rfl rfl rfl ?_
  intro E hE
  repeat (first | refine AWd_step hT rfl rfl rfl (by first | exact True.intro | omega | exact sd) ?_ | refine AWk_step hT rfl rfl (by first | exact True.intro | omega | exact sd) ?_ | refine AWk_step0 hT rfl (by first | exact True.intro | omega | exact sd) ?_ | refine AWd_nil ?_ | refine AWk_nil ?_ | refine AWd_gstep hT rfl rfl rfl rfl rfl (by intro hg; first | exact ⟨True.intro, True.intro⟩ | exact sg hg) ?_ | refine AWk_gstep hT rfl rfl rfl rfl (by intro hg; first | exact ⟨True.intro, True.intro⟩ | exact sg hg) ?_ | refine AW_seq ?_ | refine AW_region ?_ | refine AW_draw mixed (by kernel_rfl) ?_ | refine AW_block ?_ | refine AW_skip ?_ | refine AW_exit ?_ | refine AW_ret ?_)
  refine AW_condL rfl (fun hf => by simp at hf) (fun _ => ?_)
  repeat (first | refine AWd_step hT rfl rfl rfl (by first | exact True.intro | omega | exact sd) ?_ | refine AWk_step hT rfl rfl (by first | exact True.intro | omega | exact sd) ?_ | refine AWk_step0 hT rfl (by first | exact True.intro | omega | exact sd) ?_ | refine AWd_nil ?_ | refine AWk_nil ?_ | refine AWd_gstep hT rfl rfl rfl rfl rfl (by intro hg; first | exact ⟨True.intro, True.intro⟩ | exact sg hg) ?_ | refine AWk_gstep hT rfl rfl rfl rfl (by intro hg; first | exact ⟨True.intro, True.intro⟩ | exact sg hg) ?_ | refine AW_seq ?_ | refine AW_region ?_ | refine AW_draw mixed (by kernel_rfl) ?_ | refine AW_block ?_ | refine AW_skip ?_ | refine AW_exit ?_ | refine AW_ret ?_)
  refine AW_loopL (ι := Nat) (fun j => [(2, .ptr 0 0), (3, .ptr 1 0), (5, .d (.int .i64 j))])
    (fun _ => [.row [.d (.sl 6 (encRs l))], .row [.d (.sl 6 (encRs l))]])
    (fun j => j ≤ l.length) (fun j => l.length - j) 0 (by omega) ⟨.refl _, .refl _, .refl _, trivial⟩ (HLe.refl _) ?_
  intro j hj
  repeat (first | refine AWd_step hT rfl rfl rfl (by first | exact True.intro | omega | exact sd) ?_ | refine AWk_step hT rfl rfl (by first | exact True.intro | omega | exact sd) ?_ | refine AWk_step0 hT rfl (by first | exact True.intro | omega | exact sd) ?_ | refine AWd_nil ?_ | refine AWk_nil ?_ | refine AWd_gstep hT rfl rfl rfl rfl rfl (by intro hg; first | exact ⟨True.intro, True.intro⟩ | exact sg hg) ?_ | refine AWk_gstep hT rfl rfl rfl rfl (by intro hg; first | exact ⟨True.intro, True.intro⟩ | exact sg hg) ?_ | refine AW_seq ?_ | refine AW_region ?_ | refine AW_draw mixed (by kernel_rfl) ?_ | refine AW_block ?_ | refine AW_skip ?_ | refine AW_exit ?_ | refine AW_ret ?_)
  refine AW_condL rfl (fun h1 => ?_) (fun h1 => ?_)
  · have hlt : j < l.length := by rw [hlen] at h1; simpa using h1
    have hel : (encRs l)[((j : Int)).toNat]? = some (encR l[j]) := by simp [encRs, hlt]
    have hx := SameCond_spec (condR l[j]) (hs l[j] (List.getElem_mem hlt))
    generalize l[j] = x at hel hx
    obtain ⟨xv, xal, ⟨ck, cc, cv, kids⟩⟩ := x
    have hwr : IntKind.i64.wrap ((j : Int) + 1) = ((j + 1 : Nat) : Int) := by rw [wrap_id (by omega)]; simp
    repeat (first | refine AWd_step hT rfl rfl rfl (by first | exact True.intro | omega | exact sd) ?_ | refine AWk_step hT rfl rfl (by first | exact True.intro | omega | exact sd) ?_ | refine AWk_step0 hT rfl (by first | exact True.intro | omega | exact sd) ?_ | refine AWd_nil ?_ | refine AWk_nil ?_ | refine AWd_gstep hT rfl rfl rfl rfl rfl (by intro hg; first | exact ⟨True.intro, True.intro⟩ | exact sg hg) ?_ | refine AWk_gstep hT rfl rfl rfl rfl (by intro hg; first | exact ⟨True.intro, True.intro⟩ | exact sg hg) ?_ | refine AW_seq ?_ | refine AW_region ?_ | refine AW_draw mixed (by kernel_rfl) ?_ | refine AW_block ?_ | refine AW_skip ?_ | refine AW_exit ?_ | refine AW_ret ?_)
    refine AWd_op (OpS_of_pure (indexAddr_ok hT rfl rfl rfl rfl (by omega) hel)) rfl rfl ?_
    repeat (first | refine AWd_step hT rfl rfl rfl (by first | exact True.intro | omega | exact sd) ?_ | refine AWk_step hT rfl rfl (by first | exact True.intro | omega | exact sd) ?_ | refine AWk_step0 hT rfl (by first | exact True.intro | omega | exact sd) ?_ | refine AWd_nil ?_ | refine AWk_nil ?_ | refine AWd_gstep hT rfl rfl rfl rfl rfl (by intro hg; first | exact ⟨True.intro, True.intro⟩ | exact sg hg) ?_ | refine AWk_gstep hT rfl rfl rfl rfl (by intro hg; first | exact ⟨True.intro, True.intro⟩ | exact sg hg) ?_ | refine AW_seq ?_ | refine AW_region ?_ | refine AW_draw mixed (by kernel_rfl) ?_ | refine AW_block ?_ | refine AW_skip ?_ | refine AW_exit ?_ | refine AW_ret ?_)
    refine AWd_op (OpS_of_pure (indexAddr_ok hT rfl rfl rfl rfl (by omega) hel)) rfl rfl ?_
    repeat (first | refine AWd_step hT rfl rfl rfl (by first | exact True.intro | omega | exact sd) ?_ | refine AWk_step hT rfl rfl (by first | exact True.intro | omega | exact sd) ?_ | refine AWk_step0 hT rfl (by first | exact True.intro | omega | exact sd) ?_ | refine AWd_nil ?_ | refine AWk_nil ?_ | refine AWd_gstep hT rfl rfl rfl rfl rfl (by intro hg; first | exact ⟨True.intro, True.intro⟩ | exact sg hg) ?_ | refine AWk_gstep hT rfl rfl rfl rfl (by intro hg; first | exact ⟨True.intro, True.intro⟩ | exact sg hg) ?_ | refine AW_seq ?_ | refine AW_region ?_ | refine AW_draw mixed (by kernel_rfl) ?_ | refine AW_block ?_ | refine AW_skip ?_ | refine AW_exit ?_ | refine AW_ret ?_)
    refine AWd_gop rfl rfl rfl rfl (fun hg => ⟨by first | exact True.intro | exact ⟨hg, True.intro⟩ | exact ⟨hg, hg, True.intro⟩, OpS_of_pure (indexAddr_ok hT rfl rfl rfl rfl (by omega) hel)⟩) ?_
    repeat (first | refine AWd_step hT rfl rfl rfl (by first | exact True.intro | omega | exact sd) ?_ | refine AWk_step hT rfl rfl (by first | exact True.intro | omega | exact sd) ?_ | refine AWk_step0 hT rfl (by first | exact True.intro | omega | exact sd) ?_ | refine AWd_nil ?_ | refine AWk_nil ?_ | refine AWd_gstep hT rfl rfl rfl rfl rfl (by intro hg; first | exact ⟨True.intro, True.intro⟩ | exact sg hg) ?_ | refine AWk_gstep hT rfl rfl rfl rfl (by intro hg; first | exact ⟨True.intro, True.intro⟩ | exact sg hg) ?_ | refine AW_seq ?_ | refine AW_region ?_ | refine AW_draw mixed (by kernel_rfl) ?_ | refine AW_block ?_ | refine AW_skip ?_ | refine AW_exit ?_ | refine AW_ret ?_)
    refine AWd_gop rfl rfl rfl rfl (fun hg => ⟨by first | exact True.intro | exact ⟨hg, True.intro⟩ | exact ⟨hg, hg, True.intro⟩, OpS_of_pure (indexAddr_ok hT rfl rfl rfl rfl (by omega) hel)⟩) ?_
    repeat (first | refine AWd_step hT rfl rfl rfl (by first | exact True.intro | omega | exact sd) ?_ | refine AWk_step hT rfl rfl (by first | exact True.intro | omega | exact sd) ?_ | refine AWk_step0 hT rfl (by first | exact True.intro | omega | exact sd) ?_ | refine AWd_nil ?_ | refine AWk_nil ?_ | refine AWd_gstep hT rfl rfl rfl rfl rfl (by intro hg; first | exact ⟨True.intro, True.intro⟩ | exact sg hg) ?_ | refine AWk_gstep hT rfl rfl rfl rfl (by intro hg; first | exact ⟨True.intro, True.intro⟩ | exact sg hg) ?_ | refine AW_seq ?_ | refine AW_region ?_ | refine AW_draw mixed (by kernel_rfl) ?_ | refine AW_block ?_ | refine AW_skip ?_ | refine AW_exit ?_ | refine AW_ret ?_)
    refine AWd_gop rfl rfl rfl rfl (fun hg => ⟨by first | exact True.intro | exact ⟨hg, True.intro⟩ | exact ⟨hg, hg, True.intro⟩, OpS_of_pure (indexAddr_ok hT rfl rfl rfl rfl (by omega) hel)⟩) ?_
    repeat (first | refine AWd_step hT rfl rfl rfl (by first | exact True.intro | omega | exact sd) ?_ | refine AWk_step hT rfl rfl (by first | exact True.intro | omega | exact sd) ?_ | refine AWk_step0 hT rfl (by first | exact True.intro | omega | exact sd) ?_ | refine AWd_nil ?_ | refine AWk_nil ?_ | refine AWd_gstep hT rfl rfl rfl rfl rfl (by intro hg; first | exact ⟨True.intro, True.intro⟩ | exact sg hg) ?_ | refine AWk_gstep hT rfl rfl rfl rfl (by intro hg; first | exact ⟨True.intro, True.intro⟩ | exact sg hg) ?_ | refine AW_seq ?_ | refine AW_region ?_ | refine AW_draw mixed (by kernel_rfl) ?_ | refine AW_block ?_ | refine AW_skip ?_ | refine AW_exit ?_ | refine AW_ret ?_)
    refine AWd_gop rfl rfl rfl rfl (fun hg => ⟨by first | exact True.intro | exact ⟨hg, True.intro⟩ | exact ⟨hg, hg, True.intro⟩, OpS_of_pure (indexAddr_ok hT rfl rfl rfl rfl (by omega) hel)⟩) ?_
    repeat (first | refine AWd_step hT rfl rfl rfl (by first | exact True.intro | omega | exact sd) ?_ | refine AWk_step hT rfl rfl (by first | exact True.intro | omega | exact sd) ?_ | refine AWk_step0 hT rfl (by first | exact True.intro | omega | exact sd) ?_ | refine AWd_nil ?_ | refine AWk_nil ?_ | refine AWd_gstep hT rfl rfl rfl rfl rfl (by intro hg; first | exact ⟨True.intro, True.intro⟩ | exact sg hg) ?_ | refine AWk_gstep hT rfl rfl rfl rfl (by intro hg; first | exact ⟨True.intro, True.intro⟩ | exact sg hg) ?_ | refine AW_seq ?_ | refine AW_region ?_ | refine AW_draw mixed (by kernel_rfl) ?_ | refine AW_block ?_ | refine AW_skip ?_ | refine AW_exit ?_ | refine AW_ret ?_)
    refine AWd_gop rfl rfl rfl rfl (fun hg => ⟨by first | exact True.intro | exact ⟨hg, True.intro⟩ | exact ⟨hg, hg, True.intro⟩, callS0 rfl rfl hx rfl rfl rfl⟩) ?_
    repeat (first | refine AWd_step hT rfl rfl rfl (by first | exact True.intro | omega | exact sd) ?_ | refine AWk_step hT rfl rfl (by first | exact True.intro | omega | exact sd) ?_ | refine AWk_step0 hT rfl (by first | exact True.intro | omega | exact sd) ?_ | refine AWd_nil ?_ | refine AWk_nil ?_ | refine AWd_gstep hT rfl rfl rfl rfl rfl (by intro hg; first | exact ⟨True.intro, True.intro⟩ | exact sg hg) ?_ | refine AWk_gstep hT rfl rfl rfl rfl (by intro hg; first | exact ⟨True.intro, True.intro⟩ | exact sg hg) ?_ | refine AW_seq ?_ | refine AW_region ?_ | refine AW_draw mixed (by kernel_rfl) ?_ | refine AW_block ?_ | refine AW_skip ?_ | refine AW_exit ?_ | refine AW_ret ?_)
    refine AW_condL rfl (fun hf => by simp at hf) (fun _ => ?_)
    repeat (first | refine AWd_step hT rfl rfl rfl (by first | exact True.intro | omega | exact sd) ?_ | refine AWk_step hT rfl rfl (by first | exact True.intro | omega | exact sd) ?_ | refine AWk_step0 hT rfl (by first | exact True.intro | omega | exact sd) ?_ | refine AWd_nil ?_ | refine AWk_nil ?_ | refine AWd_gstep hT rfl rfl rfl rfl rfl (by intro hg; first | exact ⟨True.intro, True.intro⟩ | exact sg hg) ?_ | refine AWk_gstep hT rfl rfl rfl rfl (by intro hg; first | exact ⟨True.intro, True.intro⟩ | exact sg hg) ?_ | refine AW_seq ?_ | refine AW_region ?_ | refine AW_draw mixed (by kernel_rfl) ?_ | refine AW_block ?_ | refine AW_skip ?_ | refine AW_exit ?_ | refine AW_ret ?_)
    exact ⟨j + 1, by omega, by omega, ⟨.refl _, .refl _, AV.le.eq (by show AV.d (.int .i64 (IntKind.i64.wrap ((j : Int) + 1))) = _; rw [hwr]), trivial⟩, HLe.refl _⟩
  · repeat (first | refine AWd_step hT rfl rfl rfl (by first | exact True.intro | omega | exact sd) ?_ | refine AWk_step hT rfl rfl (by first | exact True.intro | omega | exact sd) ?_ | refine AWk_step0 hT rfl (by first | exact True.intro | omega | exact sd) ?_ | refine AWd_nil ?_ | refine AWk_nil ?_ | refine AWd_gstep hT rfl rfl rfl rfl rfl (by intro hg; first | exact ⟨True.intro, True.intro⟩ | exact sg hg) ?_ | refine AWk_gstep hT rfl rfl rfl rfl (by intro hg; first | exact ⟨True.intro, True.intro⟩ | exact sg hg) ?_ | refine AW_seq ?_ | refine AW_region ?_ | refine AW_draw mixed (by kernel_rfl) ?_ | refine AW_block ?_ | refine AW_skip ?_ | refine AW_exit ?_ | refine AW_ret ?_)
    exact ret_exact rfl (.refl _) rfl rfl rfl rfl ⟨rfl, rfl⟩
end Tdoc
/- The reference: which conditions and policies are valid. -/
set_option linter.unusedVariables false
set_option linter.unusedSimpArgs false
namespace Tdoc
open Go Go.Proofs

def zeroC : Cond → Bool
  | .mk k c v kids => decide (k = 0) && decide (c = 0) && decide (v = 0) && decide (kids.length = 0)

set_option maxHeartbeats 4000000 in
set_option maxRecDepth 100000 in
theorem zero_spec (c : Cond) : Spec Try.prog 50 [cAV c] [] (fun r h' => r = .d (.bool (zeroC c)) ∧ h' = []) := by
  obtain ⟨k, c, v, kids⟩ := c
  have hlen := encCs_length kids
  have hz0 : (((encCs kids).length : Int) == 0) = decide (kids.length = 0) := by rw [hlen, Bool.eq_iff_iff]; simp
  refine Spec_of_body hT Try.func50 rfl rfl rfl rfl ?_
  intro E hE
  repeat (first | refine AWd_step hT rfl rfl rfl (by first | exact True.intro | omega | exact sd) ?_ | refine AWk_step hT rfl rfl (by first | exact True.intro | omega | exact sd) ?_ | refine AWk_step0 hT rfl (by first | exact True.intro | omega | exact sd) ?_ | refine AWd_nil ?_ | refine AWk_nil ?_ | refine AWd_gstep hT rfl rfl rfl rfl rfl (by intro hg; first | exact ⟨True.intro, True.intro⟩ | exact sg hg) ?_ | refine AWk_gstep hT rfl rfl rfl rfl (by intro hg; first | exact ⟨True.intro, True.intro⟩ | exact sg hg) ?_ | refine AW_seq ?_ | refine AW_region ?_ | refine AW_draw mixed (by kernel_rfl) ?_ | refine AW_block ?_ | refine AW_skip ?_ | refine AW_exit ?_ | refine AW_ret ?_)
  refine ret_exact rfl (.refl _) rfl rfl rfl rfl ⟨congrArg (fun b => AV.d (.bool b)) ?_, rfl⟩
  rw [zeroC, ← hz0]; rfl

theorem validC_one (d : Nat) (c v : Int) (kids : List Cond) : validC (d + 1) (.mk 2 c v kids) = (decide (c = 0) && decide (v = 0) && decide (kids.length = 1) && !(kids.any fun x => !validC d x)) := by
  rw [validC]
  by_cases hc : c = 0 <;> by_cases hv : v = 0 <;> simp [hc, hv]

set_option maxHeartbeats 8000000 in
set_option maxRecDepth 100000 in
theorem good_spec : ∀ (d : Nat) (c : Cond), d ≤ 1000 → smallC c → Spec Try.prog 51 [cAV c, .d (.int .i64 d)] [] (fun r h' => r = .d (.bool (validC d c)) ∧ h' = [])
  | 0, .mk k c v kids, hd, hs => by
    refine Spec_of_body hT Try.func51 rfl rfl rfl rfl ?_
    intro E hE
    repeat (first | refine AWd_step hT rfl rfl rfl (by first | exact True.intro | omega | exact sd) ?_ | refine AWk_step hT rfl rfl (by first | exact True.intro | omega | exact sd) ?_ | refine AWk_step0 hT rfl (by first | exact True.intro | omega | exact sd) ?_ | refine AWd_nil ?_ | refine AWk_nil ?_ | refine AWd_gstep hT rfl rfl rfl rfl rfl (by intro hg; first | exact ⟨True.intro, True.intro⟩ | exact sg hg) ?_ | refine AWk_gstep hT rfl rfl rfl rfl (by intro hg; first | exact ⟨True.intro, True.intro⟩ | exact sg hg) ?_ | refine AW_seq ?_ | refine AW_region ?_ | refine AW_draw mixed (by kernel_rfl) ?_ | refine AW_block ?_ | refine AW_skip ?_ | refine AW_exit ?_ | refine AW_ret ?_)
    refine AW_condL rfl (fun _ => ?_) (fun hf => by simp at hf)
    repeat (first | refine AWd_step hT rfl rfl rfl (by first | exact True.intro | omega | exact sd) ?_ | refine AWk_step hT rfl rfl (by first | exact True.intro | omega | exact sd) ?_ | refine AWk_step0 hT rfl (by first | exact True.intro | omega | exact sd) ?_ | refine AWd_nil ?_ | refine AWk_nil ?_ | refine AWd_gstep hT rfl rfl rfl rfl rfl (by intro hg; first | exact ⟨True.intro, True.intro⟩ | exact sg hg) ?_ | refine AWk_gstep hT rfl rfl rfl rfl (by intro hg; first | exact ⟨True.intro, True.intro⟩ | exact sg hg) ?_ | refine AW_seq ?_ | refine AW_region ?_ | refine AW_draw mixed (by kernel_rfl) ?_ | refine AW_block ?_ | refine AW_skip ?_ | refine AW_exit ?_ | refine AW_ret ?_)
    exact ret_exact rfl (.refl _) rfl rfl rfl rfl ⟨rfl, rfl⟩
  | d + 1, .mk k c v kids, hd, hs => by
    have ih : ∀ x, x ∈ kids → Spec Try.prog 51 [cAV x, .d (.int .i64 d)] [] (fun r h' => r = .d (.bool (validC d x)) ∧ h' = []) := fun x hx => good_spec d x (by omega) (smallCs_at hs.2 x hx)
    have hlen := encCs_length kids
    have hs1 := hs.1
    have hw : IntKind.i64.wrap (((d + 1 : Nat) : Int) - 1) = (d : Int) := by rw [wrap_id (by omega)]; omega
    refine Spec_of_body hT Try.func51 rfl rfl rfl rfl ?_
    intro E hE
    have hz0 : (((encCs kids).length : Int) == 0) = decide (kids.length = 0) := by rw [hlen, Bool.eq_iff_iff]; simp
    have hz1 : (((encCs kids).length : Int) == 1) = decide (kids.length = 1) := by rw [hlen, Bool.eq_iff_iff]; simp; omega
    repeat (first | refine AWd_step hT rfl rfl rfl (by first | exact True.intro | omega | exact sd) ?_ | refine AWk_step hT rfl rfl (by first | exact True.intro | omega | exact sd) ?_ | refine AWk_step0 hT rfl (by first | exact True.intro | omega | exact sd) ?_ | refine AWd_nil ?_ | refine AWk_nil ?_ | refine AWd_gstep hT rfl rfl rfl rfl rfl (by intro hg; first | exact ⟨True.intro, True.intro⟩ | exact sg hg) ?_ | refine AWk_gstep hT rfl rfl rfl rfl (by intro hg; first | exact ⟨True.intro, True.intro⟩ | exact sg hg) ?_ | refine AW_seq ?_ | refine AW_region ?_ | refine AW_draw mixed (by kernel_rfl) ?_ | refine AW_block ?_ | refine AW_skip ?_ | refine AW_exit ?_ | refine AW_ret ?_)
    refine AW_condL rfl (fun hf => by simp at hf; omega) (fun _ => ?_)
    repeat (first | refine AWd_step hT rfl rfl rfl (by first | exact True.intro | omega | exact sd) ?_ | refine AWk_step hT rfl rfl (by first | exact True.intro | omega | exact sd) ?_ | refine AWk_step0 hT rfl (by first | exact True.intro | omega | exact sd) ?_ | refine AWd_nil ?_ | refine AWk_nil ?_ | refine AWd_gstep hT rfl rfl rfl rfl rfl (by intro hg; first | exact ⟨True.intro, True.intro⟩ | exact sg hg) ?_ | refine AWk_gstep hT rfl rfl rfl rfl (by intro hg; first | exact ⟨True.intro, True.intro⟩ | exact sg hg) ?_ | refine AW_seq ?_ | refine AW_region ?_ | refine AW_draw mixed (by kernel_rfl) ?_ | refine AW_block ?_ | refine AW_skip ?_ | refine AW_exit ?_ | refine AW_ret ?_)
    refine AW_condL rfl (fun hk => ?_) (fun hk => ?_)
    · have hk' : k = 1 := by simpa using hk
      repeat (first | refine AWd_step hT rfl rfl rfl (by first | exact True.intro | omega | exact sd) ?_ | refine AWk_step hT rfl rfl (by first | exact True.intro | omega | exact sd) ?_ | refine AWk_step0 hT rfl (by first | exact True.intro | omega | exact sd) ?_ | refine AWd_nil ?_ | refine AWk_nil ?_ | refine AWd_gstep hT rfl rfl rfl rfl rfl (by intro hg; first | exact ⟨True.intro, True.intro⟩ | exact sg hg) ?_ | refine AWk_gstep hT rfl rfl rfl rfl (by intro hg; first | exact ⟨True.intro, True.intro⟩ | exact sg hg) ?_ | refine AW_seq ?_ | refine AW_region ?_ | refine AW_draw mixed (by kernel_rfl) ?_ | refine AW_block ?_ | refine AW_skip ?_ | refine AW_exit ?_ | refine AW_ret ?_)
      refine ret_exact rfl (.refl _) rfl rfl rfl rfl ⟨congrArg (fun b => AV.d (.bool b)) ?_, rfl⟩
      rw [validC, if_pos hk', ← hz0]
    · have hk1 : ¬ k = 1 := by simpa using hk
      repeat (first | refine AWd_step hT rfl rfl rfl (by first | exact True.intro | omega | exact sd) ?_ | refine AWk_step hT rfl rfl (by first | exact True.intro | omega | exact sd) ?_ | refine AWk_step0 hT rfl (by first | exact True.intro | omega | exact sd) ?_ | refine AWd_nil ?_ | refine AWk_nil ?_ | refine AWd_gstep hT rfl rfl rfl rfl rfl (by intro hg; first | exact ⟨True.intro, True.intro⟩ | exact sg hg) ?_ | refine AWk_gstep hT rfl rfl rfl rfl (by intro hg; first | exact ⟨True.intro, True.intro⟩ | exact sg hg) ?_ | refine AW_seq ?_ | refine AW_region ?_ | refine AW_draw mixed (by kernel_rfl) ?_ | refine AW_block ?_ | refine AW_skip ?_ | refine AW_exit ?_ | refine AW_ret ?_)
      refine AW_condL rfl (fun h3 => ?_) (fun h3 => ?_)
      · have hk2 : k = 2 := by simpa using h3
        subst hk2
        rw [validC_one, ← hz1]
        cases kids with
        | nil =>
          repeat (first | refine AWd_step hT rfl rfl rfl (by first | exact True.intro | omega | exact sd) ?_ | refine AWk_step hT rfl rfl (by first | exact True.intro | omega | exact sd) ?_ | refine AWk_step0 hT rfl (by first | exact True.intro | omega | exact sd) ?_ | refine AWd_nil ?_ | refine AWk_nil ?_ | refine AWd_gstep hT rfl rfl rfl rfl rfl (by intro hg; first | exact ⟨True.intro, True.intro⟩ | exact sg hg) ?_ | refine AWk_gstep hT rfl rfl rfl rfl (by intro hg; first | exact ⟨True.intro, True.intro⟩ | exact sg hg) ?_ | refine AW_seq ?_ | refine AW_region ?_ | refine AW_draw mixed (by kernel_rfl) ?_ | refine AW_block ?_ | refine AW_skip ?_ | refine AW_exit ?_ | refine AW_ret ?_)
          refine AWk_gop (v := .any) rfl rfl rfl (fun hg => absurd hg (by simp [encCs, gval])) ?_
          refine AWk_gop (v := .any) rfl rfl rfl (fun hg => absurd hg (by simp [encCs, gval])) ?_
          repeat (first | refine AWd_step hT rfl rfl rfl (by first | exact True.intro | omega | exact sd) ?_ | refine AWk_step hT rfl rfl (by first | exact True.intro | omega | exact sd) ?_ | refine AWk_step0 hT rfl (by first | exact True.intro | omega | exact sd) ?_ | refine AWd_nil ?_ | refine AWk_nil ?_ | refine AWd_gstep hT rfl rfl rfl rfl rfl (by intro hg; first | exact ⟨True.intro, True.intro⟩ | exact sg hg) ?_ | refine AWk_gstep hT rfl rfl rfl rfl (by intro hg; first | exact ⟨True.intro, True.intro⟩ | exact sg hg) ?_ | refine AW_seq ?_ | refine AW_region ?_ | refine AW_draw mixed (by kernel_rfl) ?_ | refine AW_block ?_ | refine AW_skip ?_ | refine AW_exit ?_ | refine AW_ret ?_)
          refine AWk_gop (v := .d (.bool true)) rfl rfl rfl (fun hg => absurd hg (by simp [encCs, gval])) ?_
          repeat (first | refine AWd_step hT rfl rfl rfl (by first | exact True.intro | omega | exact sd) ?_ | refine AWk_step hT rfl rfl (by first | exact True.intro | omega | exact sd) ?_ | refine AWk_step0 hT rfl (by first | exact True.intro | omega | exact sd) ?_ | refine AWd_nil ?_ | refine AWk_nil ?_ | refine AWd_gstep hT rfl rfl rfl rfl rfl (by intro hg; first | exact ⟨True.intro, True.intro⟩ | exact sg hg) ?_ | refine AWk_gstep hT rfl rfl rfl rfl (by intro hg; first | exact ⟨True.intro, True.intro⟩ | exact sg hg) ?_ | refine AW_seq ?_ | refine AW_region ?_ | refine AW_draw mixed (by kernel_rfl) ?_ | refine AW_block ?_ | refine AW_skip ?_ | refine AW_exit ?_ | refine AW_ret ?_)
          refine ret_exact rfl (.refl _) rfl rfl rfl rfl ⟨congrArg (fun b => AV.d (.bool b)) ?_, rfl⟩
          simp [encCs]
        | cons x rest =>
          have hx := ih x (List.mem_cons_self)
          have hel : (encCs (x :: rest))[((0 : Int)).toNat]? = some (encC x) := by simp [encCs]
          have hany : (kids : Bool) → (((encCs (x :: rest)).length : Int) == 1) = true → ((x :: rest).any fun x => !validC d x) = !validC d x := by
            intro _ h1
            rw [hz1] at h1
            have : rest = [] := by simpa using h1
            rw [this]; simp
          generalize validC d x = b at hx hany
          obtain ⟨xk, xc, xv, xkids⟩ := x
          repeat (first | refine AWd_step hT rfl rfl rfl (by first | exact True.intro | omega | exact sd) ?_ | refine AWk_step hT rfl rfl (by first | exact True.intro | omega | exact sd) ?_ | refine AWk_step0 hT rfl (by first | exact True.intro | omega | exact sd) ?_ | refine AWd_nil ?_ | refine AWk_nil ?_ | refine AWd_gstep hT rfl rfl rfl rfl rfl (by intro hg; first | exact ⟨True.intro, True.intro⟩ | exact sg hg) ?_ | refine AWk_gstep hT rfl rfl rfl rfl (by intro hg; first | exact ⟨True.intro, True.intro⟩ | exact sg hg) ?_ | refine AW_seq ?_ | refine AW_region ?_ | refine AW_draw mixed (by kernel_rfl) ?_ | refine AW_block ?_ | refine AW_skip ?_ | refine AW_exit ?_ | refine AW_ret ?_)
          refine AWk_gop rfl rfl rfl (fun hg => ⟨by first | exact True.intro | exact ⟨hg, True.intro⟩ | exact ⟨hg, hg, True.intro⟩, OpS_of_pure (indexAddr_ok hT rfl rfl rfl rfl (by decide) hel)⟩) ?_
          repeat (first | refine AWd_step hT rfl rfl rfl (by first | exact True.intro | omega | exact sd) ?_ | refine AWk_step hT rfl rfl (by first | exact True.intro | omega | exact sd) ?_ | refine AWk_step0 hT rfl (by first | exact True.intro | omega | exact sd) ?_ | refine AWd_nil ?_ | refine AWk_nil ?_ | refine AWd_gstep hT rfl rfl rfl rfl rfl (by intro hg; first | exact ⟨True.intro, True.intro⟩ | exact sg hg) ?_ | refine AWk_gstep hT rfl rfl rfl rfl (by intro hg; first | exact ⟨True.intro, True.intro⟩ | exact sg hg) ?_ | refine AW_seq ?_ | refine AW_region ?_ | refine AW_draw mixed (by kernel_rfl) ?_ | refine AW_block ?_ | refine AW_skip ?_ | refine AW_exit ?_ | refine AW_ret ?_)
          rw [hw]
          refine AWk_gop rfl rfl rfl (fun hg => ⟨by first | exact True.intro | exact ⟨hg, True.intro⟩ | exact ⟨hg, hg, True.intro⟩, callS0 rfl rfl hx rfl rfl rfl⟩) ?_
          repeat (first | refine AWd_step hT rfl rfl rfl (by first | exact True.intro | omega | exact sd) ?_ | refine AWk_step hT rfl rfl (by first | exact True.intro | omega | exact sd) ?_ | refine AWk_step0 hT rfl (by first | exact True.intro | omega | exact sd) ?_ | refine AWd_nil ?_ | refine AWk_nil ?_ | refine AWd_gstep hT rfl rfl rfl rfl rfl (by intro hg; first | exact ⟨True.intro, True.intro⟩ | exact sg hg) ?_ | refine AWk_gstep hT rfl rfl rfl rfl (by intro hg; first | exact ⟨True.intro, True.intro⟩ | exact sg hg) ?_ | refine AW_seq ?_ | refine AW_region ?_ | refine AW_draw mixed (by kernel_rfl) ?_ | refine AW_block ?_ | refine AW_skip ?_ | refine AW_exit ?_ | refine AW_ret ?_)
          refine ret_exact rfl (.refl _) rfl rfl rfl rfl ⟨congrArg (fun b => AV.d (.bool b)) ?_, rfl⟩
          cases hq : (((encCs ((Cond.mk xk xc xv xkids) :: rest)).length : Int) == 1) with
          | false => simp
          | true => rw [hany true hq]; simp; rfl
      · have hk2 : ¬ k = 2 := by simpa using h3
        have hl2 : decide (((encCs kids).length : Int) < 2) = decide (kids.length < 2) := by rw [hlen, Bool.eq_iff_iff]; simp; omega
        refine AW_seq_cut (ι := Unit) (fun _ => [(1, .d (.int .i64 ((d + 1 : Nat) : Int))), (2, .ptr 0 0), (61, .d (.bool (decide (k = 3 ∨ k = 4))))]) (fun _ => [.row [.d (.int .i64 k), .d (.int .i64 c), .d (.int .i64 v), .d (.sl 4 (encCs kids))]]) (fun _ => True) ?_ ?_
        · repeat (first | refine AWd_step hT rfl rfl rfl (by first | exact True.intro | omega | exact sd) ?_ | refine AWk_step hT rfl rfl (by first | exact True.intro | omega | exact sd) ?_ | refine AWk_step0 hT rfl (by first | exact True.intro | omega | exact sd) ?_ | refine AWd_nil ?_ | refine AWk_nil ?_ | refine AWd_gstep hT rfl rfl rfl rfl rfl (by intro hg; first | exact ⟨True.intro, True.intro⟩ | exact sg hg) ?_ | refine AWk_gstep hT rfl rfl rfl rfl (by intro hg; first | exact ⟨True.intro, True.intro⟩ | exact sg hg) ?_ | refine AW_seq ?_ | refine AW_region ?_ | refine AW_draw mixed (by kernel_rfl) ?_ | refine AW_block ?_ | refine AW_skip ?_ | refine AW_exit ?_ | refine AW_ret ?_)
          refine AW_condL rfl (fun h4 => ?_) (fun h4 => ?_)
          · have h4' : k = 3 := by simpa using h4
            repeat (first | refine AW_exit ?_ | refine AW_skip ?_)
            exact ⟨(), trivial, ⟨.refl _, .refl _, AV.le.eq (by show AV.d (.bool (k == 3)) = _; rw [h4]; simp [h4']), trivial⟩, HLe.refl _⟩
          · have h4' : ¬ k = 3 := by simpa using h4
            repeat (first | refine AWd_step hT rfl rfl rfl (by first | exact True.intro | omega | exact sd) ?_ | refine AWk_step hT rfl rfl (by first | exact True.intro | omega | exact sd) ?_ | refine AWk_step0 hT rfl (by first | exact True.intro | omega | exact sd) ?_ | refine AWd_nil ?_ | refine AWk_nil ?_ | refine AWd_gstep hT rfl rfl rfl rfl rfl (by intro hg; first | exact ⟨True.intro, True.intro⟩ | exact sg hg) ?_ | refine AWk_gstep hT rfl rfl rfl rfl (by intro hg; first | exact ⟨True.intro, True.intro⟩ | exact sg hg) ?_ | refine AW_seq ?_ | refine AW_region ?_ | refine AW_draw mixed (by kernel_rfl) ?_ | refine AW_block ?_ | refine AW_skip ?_ | refine AW_exit ?_ | refine AW_ret ?_)
            exact ⟨(), trivial, ⟨.refl _, .refl _, AV.le.eq (by show AV.d (.bool (k == 4)) = _; by_cases hk4 : k = 4 <;> simp [hk4, h4']), trivial⟩, HLe.refl _⟩
        · intro _ _
          refine AW_condL rfl (fun h4 => ?_) (fun h4 => ?_)
          · have hk34 : k = 3 ∨ k = 4 := by simpa using h4
            repeat (first | refine AWd_step hT rfl rfl rfl (by first | exact True.intro | omega | exact sd) ?_ | refine AWk_step hT rfl rfl (by first | exact True.intro | omega | exact sd) ?_ | refine AWk_step0 hT rfl (by first | exact True.intro | omega | exact sd) ?_ | refine AWd_nil ?_ | refine AWk_nil ?_ | refine AWd_gstep hT rfl rfl rfl rfl rfl (by intro hg; first | exact ⟨True.intro, True.intro⟩ | exact sg hg) ?_ | refine AWk_gstep hT rfl rfl rfl rfl (by intro hg; first | exact ⟨True.intro, True.intro⟩ | exact sg hg) ?_ | refine AW_seq ?_ | refine AW_region ?_ | refine AW_draw mixed (by kernel_rfl) ?_ | refine AW_block ?_ | refine AW_skip ?_ | refine AW_exit ?_ | refine AW_ret ?_)
            refine AW_condL rfl (fun h5 => ?_) (fun h5 => ?_)
            · have h5' : (c ≠ 0 ∨ v ≠ 0) ∨ kids.length < 2 := by rw [hl2] at h5; simpa using h5
              repeat (first | refine AWd_step hT rfl rfl rfl (by first | exact True.intro | omega | exact sd) ?_ | refine AWk_step hT rfl rfl (by first | exact True.intro | omega | exact sd) ?_ | refine AWk_step0 hT rfl (by first | exact True.intro | omega | exact sd) ?_ | refine AWd_nil ?_ | refine AWk_nil ?_ | refine AWd_gstep hT rfl rfl rfl rfl rfl (by intro hg; first | exact ⟨True.intro, True.intro⟩ | exact sg hg) ?_ | refine AWk_gstep hT rfl rfl rfl rfl (by intro hg; first | exact ⟨True.intro, True.intro⟩ | exact sg hg) ?_ | refine AW_seq ?_ | refine AW_region ?_ | refine AW_draw mixed (by kernel_rfl) ?_ | refine AW_block ?_ | refine AW_skip ?_ | refine AW_exit ?_ | refine AW_ret ?_)
              refine ret_exact rfl (.refl _) rfl rfl rfl rfl ⟨congrArg (fun b => AV.d (.bool b)) ?_, rfl⟩
              rw [validC, if_neg hk1, if_neg hk2, if_pos hk34]
              by_cases hcv : c ≠ 0 ∨ v ≠ 0
              · rw [if_pos hcv]
              · rw [if_neg hcv]; simp [h5'.resolve_left hcv]
            · have h5' : ¬ ((c ≠ 0 ∨ v ≠ 0) ∨ kids.length < 2) := by
                rw [hl2] at h5
                intro hh
                rw [show ((c != 0 || v != 0) || decide (kids.length < 2)) = true by simpa using hh] at h5
                cases h5
              have hcv : ¬ (c ≠ 0 ∨ v ≠ 0) := fun hh => h5' (.inl hh)
              have hge2 : ¬ kids.length < 2 := fun hh => h5' (.inr hh)
              have hval : validC (d + 1) (.mk k c v kids) = (!(kids.any fun x => kindC x == k) && !(kids.any fun x => !validC d x)) := by
                rw [validC, if_neg hk1, if_neg hcv, if_neg hk2, if_pos hk34]; simp [hge2]
              rw [hval]
              repeat (first | refine AWd_step hT rfl rfl rfl (by first | exact True.intro | omega | exact sd) ?_ | refine AWk_step hT rfl rfl (by first | exact True.intro | omega | exact sd) ?_ | refine AWk_step0 hT rfl (by first | exact True.intro | omega | exact sd) ?_ | refine AWd_nil ?_ | refine AWk_nil ?_ | refine AWd_gstep hT rfl rfl rfl rfl rfl (by intro hg; first | exact ⟨True.intro, True.intro⟩ | exact sg hg) ?_ | refine AWk_gstep hT rfl rfl rfl rfl (by intro hg; first | exact ⟨True.intro, True.intro⟩ | exact sg hg) ?_ | refine AW_seq ?_ | refine AW_region ?_ | refine AW_draw mixed (by kernel_rfl) ?_ | refine AW_block ?_ | refine AW_skip ?_ | refine AW_exit ?_ | refine AW_ret ?_)
              refine AW_loopL (ι := Nat) (fun j => [(1, .d (.int .i64 ((d + 1 : Nat) : Int))), (2, .ptr 0 0), (5, .d (.int .i64 j))]) (fun _ => [.row [.d (.int .i64 k), .d (.int .i64 c), .d (.int .i64 v), .d (.sl 4 (encCs kids))]])
                (fun j => j ≤ kids.length ∧ ∀ i, (hi : i < j) → (hi2 : i < kids.length) → kindC kids[i] ≠ k ∧ validC d kids[i] = true) (fun j => kids.length - j) 0 ⟨by omega, fun i hi => by omega⟩ ⟨.refl _, .refl _, .refl _, trivial⟩ (HLe.refl _) ?_
              rintro j ⟨hj, hb⟩
              repeat (first | refine AWd_step hT rfl rfl rfl (by first | exact True.intro | omega | exact sd) ?_ | refine AWk_step hT rfl rfl (by first | exact True.intro | omega | exact sd) ?_ | refine AWk_step0 hT rfl (by first | exact True.intro | omega | exact sd) ?_ | refine AWd_nil ?_ | refine AWk_nil ?_ | refine AWd_gstep hT rfl rfl rfl rfl rfl (by intro hg; first | exact ⟨True.intro, True.intro⟩ | exact sg hg) ?_ | refine AWk_gstep hT rfl rfl rfl rfl (by intro hg; first | exact ⟨True.intro, True.intro⟩ | exact sg hg) ?_ | refine AW_seq ?_ | refine AW_region ?_ | refine AW_draw mixed (by kernel_rfl) ?_ | refine AW_block ?_ | refine AW_skip ?_ | refine AW_exit ?_ | refine AW_ret ?_)
              refine AW_condL rfl (fun h6 => ?_) (fun h6 => ?_)
              · have hlt : j < kids.length := by rw [hlen] at h6; simpa using h6
                have hel : (encCs kids)[((j : Int)).toNat]? = some (encC kids[j]) := by simp [encCs_eq, hlt]
                have hmem := List.getElem_mem hlt
                have hx := ih kids[j] hmem
                have hwr : IntKind.i64.wrap ((j : Int) + 1) = ((j + 1 : Nat) : Int) := by rw [wrap_id (by omega)]; simp
                generalize hxe : kids[j] = x at hel hx hmem
                obtain ⟨xk, xc, xv, xkids⟩ := x
                repeat (first | refine AWd_step hT rfl rfl rfl (by first | exact True.intro | omega | exact sd) ?_ | refine AWk_step hT rfl rfl (by first | exact True.intro | omega | exact sd) ?_ | refine AWk_step0 hT rfl (by first | exact True.intro | omega | exact sd) ?_ | refine AWd_nil ?_ | refine AWk_nil ?_ | refine AWd_gstep hT rfl rfl rfl rfl rfl (by intro hg; first | exact ⟨True.intro, True.intro⟩ | exact sg hg) ?_ | refine AWk_gstep hT rfl rfl rfl rfl (by intro hg; first | exact ⟨True.intro, True.intro⟩ | exact sg hg) ?_ | refine AW_seq ?_ | refine AW_region ?_ | refine AW_draw mixed (by kernel_rfl) ?_ | refine AW_block ?_ | refine AW_skip ?_ | refine AW_exit ?_ | refine AW_ret ?_)
                refine AWd_op (OpS_of_pure (indexAddr_ok hT rfl rfl rfl rfl (by omega) hel)) rfl rfl ?_
                repeat (first | refine AWd_step hT rfl rfl rfl (by first | exact True.intro | omega | exact sd) ?_ | refine AWk_step hT rfl rfl (by first | exact True.intro | omega | exact sd) ?_ | refine AWk_step0 hT rfl (by first | exact True.intro | omega | exact sd) ?_ | refine AWd_nil ?_ | refine AWk_nil ?_ | refine AWd_gstep hT rfl rfl rfl rfl rfl (by intro hg; first | exact ⟨True.intro, True.intro⟩ | exact sg hg) ?_ | refine AWk_gstep hT rfl rfl rfl rfl (by intro hg; first | exact ⟨True.intro, True.intro⟩ | exact sg hg) ?_ | refine AW_seq ?_ | refine AW_region ?_ | refine AW_draw mixed (by kernel_rfl) ?_ | refine AW_block ?_ | refine AW_skip ?_ | refine AW_exit ?_ | refine AW_ret ?_)
                refine AWd_gop rfl rfl rfl rfl (fun hg => ⟨by first | exact True.intro | exact ⟨hg, True.intro⟩ | exact ⟨hg, hg, True.intro⟩, OpS_of_pure (indexAddr_ok hT rfl rfl rfl rfl (by omega) hel)⟩) ?_
                repeat (first | refine AWd_step hT rfl rfl rfl (by first | exact True.intro | omega | exact sd) ?_ | refine AWk_step hT rfl rfl (by first | exact True.intro | omega | exact sd) ?_ | refine AWk_step0 hT rfl (by first | exact True.intro | omega | exact sd) ?_ | refine AWd_nil ?_ | refine AWk_nil ?_ | refine AWd_gstep hT rfl rfl rfl rfl rfl (by intro hg; first | exact ⟨True.intro, True.intro⟩ | exact sg hg) ?_ | refine AWk_gstep hT rfl rfl rfl rfl (by intro hg; first | exact ⟨True.intro, True.intro⟩ | exact sg hg) ?_ | refine AW_seq ?_ | refine AW_region ?_ | refine AW_draw mixed (by kernel_rfl) ?_ | refine AW_block ?_ | refine AW_skip ?_ | refine AW_exit ?_ | refine AW_ret ?_)
                rw [hw]
                refine AWd_gop rfl rfl rfl rfl (fun hg => ⟨by first | exact True.intro | exact ⟨hg, True.intro⟩ | exact ⟨hg, hg, True.intro⟩, callS0 rfl rfl hx rfl rfl rfl⟩) ?_
                repeat (first | refine AWd_step hT rfl rfl rfl (by first | exact True.intro | omega | exact sd) ?_ | refine AWk_step hT rfl rfl (by first | exact True.intro | omega | exact sd) ?_ | refine AWk_step0 hT rfl (by first | exact True.intro | omega | exact sd) ?_ | refine AWd_nil ?_ | refine AWk_nil ?_ | refine AWd_gstep hT rfl rfl rfl rfl rfl (by intro hg; first | exact ⟨True.intro, True.intro⟩ | exact sg hg) ?_ | refine AWk_gstep hT rfl rfl rfl rfl (by intro hg; first | exact ⟨True.intro, True.intro⟩ | exact sg hg) ?_ | refine AW_seq ?_ | refine AW_region ?_ | refine AW_draw mixed (by kernel_rfl) ?_ | refine AW_block ?_ | refine AW_skip ?_ | refine AW_exit ?_ | refine AW_ret ?_)
                refine AW_condL rfl (fun h7 => ?_) (fun h7 => ?_)
                · have h7' : xk = k ∨ validC d (.mk xk xc xv xkids) = false := by simpa using h7
                  repeat (first | refine AWd_step hT rfl rfl rfl (by first | exact True.intro | omega | exact sd) ?_ | refine AWk_step hT rfl rfl (by first | exact True.intro | omega | exact sd) ?_ | refine AWk_step0 hT rfl (by first | exact True.intro | omega | exact sd) ?_ | refine AWd_nil ?_ | refine AWk_nil ?_ | refine AWd_gstep hT rfl rfl rfl rfl rfl (by intro hg; first | exact ⟨True.intro, True.intro⟩ | exact sg hg) ?_ | refine AWk_gstep hT rfl rfl rfl rfl (by intro hg; first | exact ⟨True.intro, True.intro⟩ | exact sg hg) ?_ | refine AW_seq ?_ | refine AW_region ?_ | refine AW_draw mixed (by kernel_rfl) ?_ | refine AW_block ?_ | refine AW_skip ?_ | refine AW_exit ?_ | refine AW_ret ?_)
                  refine ret_exact rfl (.refl _) rfl rfl rfl rfl ⟨congrArg (fun b => AV.d (.bool b)) ?_, rfl⟩
                  rcases h7' with h7' | h7'
                  · rw [show (kids.any fun x => kindC x == k) = true from List.any_eq_true.2 ⟨_, hmem, by simp [kindC, h7']⟩]; rfl
                  · rw [show (kids.any fun x => !validC d x) = true from List.any_eq_true.2 ⟨_, hmem, by simp [h7']⟩]; simp
                · have h7' : ¬ (xk = k ∨ validC d (.mk xk xc xv xkids) = false) := by
                    intro hh
                    rw [show ((xk == k) || !validC d (.mk xk xc xv xkids)) = true by simpa using hh] at h7
                    cases h7
                  repeat (first | refine AWd_step hT rfl rfl rfl (by first | exact True.intro | omega | exact sd) ?_ | refine AWk_step hT rfl rfl (by first | exact True.intro | omega | exact sd) ?_ | refine AWk_step0 hT rfl (by first | exact True.intro | omega | exact sd) ?_ | refine AWd_nil ?_ | refine AWk_nil ?_ | refine AWd_gstep hT rfl rfl rfl rfl rfl (by intro hg; first | exact ⟨True.intro, True.intro⟩ | exact sg hg) ?_ | refine AWk_gstep hT rfl rfl rfl rfl (by intro hg; first | exact ⟨True.intro, True.intro⟩ | exact sg hg) ?_ | refine AW_seq ?_ | refine AW_region ?_ | refine AW_draw mixed (by kernel_rfl) ?_ | refine AW_block ?_ | refine AW_skip ?_ | refine AW_exit ?_ | refine AW_ret ?_)
                  refine ⟨j + 1, ⟨by omega, fun i hi hi2 => ?_⟩, by omega, ⟨.refl _, .refl _, AV.le.eq (by show AV.d (.int .i64 (IntKind.i64.wrap ((j : Int) + 1))) = _; rw [hwr]), trivial⟩, HLe.refl _⟩
                  by_cases hij : i = j
                  · subst hij; rw [hxe]; exact ⟨fun hh => h7' (.inl hh), by simpa using fun hh => h7' (.inr hh)⟩
                  · exact hb i (by omega) hi2
              · have hge : j = kids.length := by rw [hlen] at h6; simp at h6; omega
                subst hge
                repeat (first | refine AWd_step hT rfl rfl rfl (by first | exact True.intro | omega | exact sd) ?_ | refine AWk_step hT rfl rfl (by first | exact True.intro | omega | exact sd) ?_ | refine AWk_step0 hT rfl (by first | exact True.intro | omega | exact sd) ?_ | refine AWd_nil ?_ | refine AWk_nil ?_ | refine AWd_gstep hT rfl rfl rfl rfl rfl (by intro hg; first | exact ⟨True.intro, True.intro⟩ | exact sg hg) ?_ | refine AWk_gstep hT rfl rfl rfl rfl (by intro hg; first | exact ⟨True.intro, True.intro⟩ | exact sg hg) ?_ | refine AW_seq ?_ | refine AW_region ?_ | refine AW_draw mixed (by kernel_rfl) ?_ | refine AW_block ?_ | refine AW_skip ?_ | refine AW_exit ?_ | refine AW_ret ?_)
                refine ret_exact rfl (.refl _) rfl rfl rfl rfl ⟨congrArg (fun b => AV.d (.bool b)) ?_, rfl⟩
                have e1 : (kids.any fun x => kindC x == k) = false := by
                  rw [List.any_eq_false]; intro x hx
                  obtain ⟨i, hi, rfl⟩ := List.mem_iff_getElem.1 hx
                  simpa using (hb i hi hi).1
                have e2 : (kids.any fun x => !validC d x) = false := by
                  rw [List.any_eq_false]; intro x hx
                  obtain ⟨i, hi, rfl⟩ := List.mem_iff_getElem.1 hx
                  simpa using (hb i hi hi).2
                rw [e1, e2]; rfl
          · have hk34 : ¬ (k = 3 ∨ k = 4) := by simpa using h4
            repeat (first | refine AWd_step hT rfl rfl rfl (by first | exact True.intro | omega | exact sd) ?_ | refine AWk_step hT rfl rfl (by first | exact True.intro | omega | exact sd) ?_ | refine AWk_step0 hT rfl (by first | exact True.intro | omega | exact sd) ?_ | refine AWd_nil ?_ | refine AWk_nil ?_ | refine AWd_gstep hT rfl rfl rfl rfl rfl (by intro hg; first | exact ⟨True.intro, True.intro⟩ | exact sg hg) ?_ | refine AWk_gstep hT rfl rfl rfl rfl (by intro hg; first | exact ⟨True.intro, True.intro⟩ | exact sg hg) ?_ | refine AW_seq ?_ | refine AW_region ?_ | refine AW_draw mixed (by kernel_rfl) ?_ | refine AW_block ?_ | refine AW_skip ?_ | refine AW_exit ?_ | refine AW_ret ?_)
            refine ret_exact rfl (.refl _) rfl rfl rfl rfl ⟨congrArg (fun b => AV.d (.bool b)) ?_, rfl⟩
            rw [validC, if_neg hk1, if_neg hk2, if_neg hk34]; simp
end Tdoc
/- The reference: which policies are valid. -/
set_option linter.unusedVariables false
set_option linter.unusedSimpArgs false
namespace Tdoc
open Go Go.Proofs

set_option maxHeartbeats 8000000 in
set_option maxRecDepth 100000 in
theorem ValidR_spec (l : List Rule) (hs : ∀ r, r ∈ l → smallC (condR r)) : Spec Try.prog 31 [polAV l] [] (fun r h' => r = .d (.int .i64 (validPol l)) ∧ h' = []) := by
  refine Spec_of_body hT Try.func31 rfl rfl rfl rfl ?_
  intro E hE
  have hlen : (encRs l).length = l.length := by simp [encRs]
  repeat (first | refine AWd_step hT rfl rfl rfl (by first | exact True.intro | omega | exact sd) ?_ | refine AWk_step hT rfl rfl (by first | exact True.intro | omega | exact sd) ?_ | refine AWk_step0 hT rfl (by first | exact True.intro | omega | exact sd) ?_ | refine AWd_nil ?_ | refine AWk_nil ?_ | refine AWd_gstep hT rfl rfl rfl rfl rfl (by intro hg; first | exact ⟨True.intro, True.intro⟩ | exact sg hg) ?_ | refine AWk_gstep hT rfl rfl rfl rfl (by intro hg; first | exact ⟨True.intro, True.intro⟩ | exact sg hg) ?_ | refine AW_seq ?_ | refine AW_region ?_ | refine AW_draw mixed (by kernel_rfl) ?_ | refine AW_block ?_ | refine AW_skip ?_ | refine AW_exit ?_ | refine AW_ret ?_)
  refine AW_condL rfl (fun h1 => ?_) (fun h1 => ?_)
  · have h1' : l.length > 32 := by rw [hlen] at h1; simp at h1; omega
    repeat (first | refine AWd_step hT rfl rfl rfl (by first | exact True.intro | omega | exact sd) ?_ | refine AWk_step hT rfl rfl (by first | exact True.intro | omega | exact sd) ?_ | refine AWk_step0 hT rfl (by first | exact True.intro | omega | exact sd) ?_ | refine AWd_nil ?_ | refine AWk_nil ?_ | refine AWd_gstep hT rfl rfl rfl rfl rfl (by intro hg; first | exact ⟨True.intro, True.intro⟩ | exact sg hg) ?_ | refine AWk_gstep hT rfl rfl rfl rfl (by intro hg; first | exact ⟨True.intro, True.intro⟩ | exact sg hg) ?_ | refine AW_seq ?_ | refine AW_region ?_ | refine AW_draw mixed (by kernel_rfl) ?_ | refine AW_block ?_ | refine AW_skip ?_ | refine AW_exit ?_ | refine AW_ret ?_)
    refine ret_exact rfl (.refl _) rfl rfl rfl rfl ⟨?_, rfl⟩
    rw [validPol, if_pos h1']; rfl
  · have h1' : ¬ l.length > 32 := by rw [hlen] at h1; simp at h1; omega
    rw [validPol, if_neg h1']
    repeat (first | refine AWd_step hT rfl rfl rfl (by first | exact True.intro | omega | exact sd) ?_ | refine AWk_step hT rfl rfl (by first | exact True.intro | omega | exact sd) ?_ | refine AWk_step0 hT rfl (by first | exact True.intro | omega | exact sd) ?_ | refine AWd_nil ?_ | refine AWk_nil ?_ | refine AWd_gstep hT rfl rfl rfl rfl rfl (by intro hg; first | exact ⟨True.intro, True.intro⟩ | exact sg hg) ?_ | refine AWk_gstep hT rfl rfl rfl rfl (by intro hg; first | exact ⟨True.intro, True.intro⟩ | exact sg hg) ?_ | refine AW_seq ?_ | refine AW_region ?_ | refine AW_draw mixed (by kernel_rfl) ?_ | refine AW_block ?_ | refine AW_skip ?_ | refine AW_exit ?_ | refine AW_ret ?_)
    refine AW_loopC (ι := Nat) (fun k => [(1, .ptr 0 0), (3, .d (.int .i64 k))]) (fun _ => [.row [.d (.sl 6 (encRs l))]]) (fun k => k ≤ l.length ∧ firstErr (l.drop k) = firstErr l) (fun k => l.length - k) 0
      ⟨by omega, rfl⟩ ⟨.refl _, .refl _, trivial⟩ (HLe.refl _) ?_
    rintro k ⟨hk, hf⟩
    repeat (first | refine AWd_step hT rfl rfl rfl (by first | exact True.intro | omega | exact sd) ?_ | refine AWk_step hT rfl rfl (by first | exact True.intro | omega | exact sd) ?_ | refine AWk_step0 hT rfl (by first | exact True.intro | omega | exact sd) ?_ | refine AWd_nil ?_ | refine AWk_nil ?_ | refine AWd_gstep hT rfl rfl rfl rfl rfl (by intro hg; first | exact ⟨True.intro, True.intro⟩ | exact sg hg) ?_ | refine AWk_gstep hT rfl rfl rfl rfl (by intro hg; first | exact ⟨True.intro, True.intro⟩ | exact sg hg) ?_ | refine AW_seq ?_ | refine AW_region ?_ | refine AW_draw mixed (by kernel_rfl) ?_ | refine AW_block ?_ | refine AW_skip ?_ | refine AW_exit ?_ | refine AW_ret ?_)
    refine AW_condL rfl (fun h2 => ?_) (fun h2 => ?_)
    · have hlt : k < l.length := by rw [hlen] at h2; simpa using h2
      have hel : (encRs l)[((k : Int)).toNat]? = some (encR l[k]) := by simp [encRs, hlt]
      have hd : l.drop k = l[k] :: l.drop (k + 1) := by simp
      rw [hd] at hf
      have hsm := hs l[k] (List.getElem_mem hlt)
      generalize l[k] = r at hel hf hsm
      obtain ⟨v, al, ⟨ck, cc, cv, kids⟩⟩ := r
      have hkl := encCs_length kids
      have hv := good_spec 8 (.mk ck cc cv kids) (by omega) hsm
      have hz := zero_spec (.mk ck cc cv kids)
      have hzc : zeroC (.mk ck cc cv kids) = false ↔ (ck ≠ 0 ∨ cc ≠ 0 ∨ cv ≠ 0 ∨ 0 < kids.length) := by
        rw [zeroC]; simp; rw [Nat.pos_iff_ne_zero, ne_eq, List.length_eq_zero_iff]
        by_cases h1 : ck = 0 <;> by_cases h2 : cc = 0 <;> by_cases h3 : cv = 0 <;> simp [h1, h2, h3]
      generalize zeroC (.mk ck cc cv kids) = zc at hz hzc
      rw [firstErr] at hf
      repeat (first | refine AWd_step hT rfl rfl rfl (by first | exact True.intro | omega | exact sd) ?_ | refine AWk_step hT rfl rfl (by first | exact True.intro | omega | exact sd) ?_ | refine AWk_step0 hT rfl (by first | exact True.intro | omega | exact sd) ?_ | refine AWd_nil ?_ | refine AWk_nil ?_ | refine AWd_gstep hT rfl rfl rfl rfl rfl (by intro hg; first | exact ⟨True.intro, True.intro⟩ | exact sg hg) ?_ | refine AWk_gstep hT rfl rfl rfl rfl (by intro hg; first | exact ⟨True.intro, True.intro⟩ | exact sg hg) ?_ | refine AW_seq ?_ | refine AW_region ?_ | refine AW_draw mixed (by kernel_rfl) ?_ | refine AW_block ?_ | refine AW_skip ?_ | refine AW_exit ?_ | refine AW_ret ?_)
      refine AWk_op (OpS_of_pure (indexAddr_ok hT rfl rfl rfl rfl (by omega) hel)) rfl ?_
      repeat (first | refine AWd_step hT rfl rfl rfl (by first | exact True.intro | omega | exact sd) ?_ | refine AWk_step hT rfl rfl (by first | exact True.intro | omega | exact sd) ?_ | refine AWk_step0 hT rfl (by first | exact True.intro | omega | exact sd) ?_ | refine AWd_nil ?_ | refine AWk_nil ?_ | refine AWd_gstep hT rfl rfl rfl rfl rfl (by intro hg; first | exact ⟨True.intro, True.intro⟩ | exact sg hg) ?_ | refine AWk_gstep hT rfl rfl rfl rfl (by intro hg; first | exact ⟨True.intro, True.intro⟩ | exact sg hg) ?_ | refine AW_seq ?_ | refine AW_region ?_ | refine AW_draw mixed (by kernel_rfl) ?_ | refine AW_block ?_ | refine AW_skip ?_ | refine AW_exit ?_ | refine AW_ret ?_)
      refine AW_condL rfl (fun h3 => ?_) (fun h3 => ?_)
      · have h3' : v < 1 ∨ v > 3 := by simpa using h3
        repeat (first | refine AWd_step hT rfl rfl rfl (by first | exact True.intro | omega | exact sd) ?_ | refine AWk_step hT rfl rfl (by first | exact True.intro | omega | exact sd) ?_ | refine AWk_step0 hT rfl (by first | exact True.intro | omega | exact sd) ?_ | refine AWd_nil ?_ | refine AWk_nil ?_ | refine AWd_gstep hT rfl rfl rfl rfl rfl (by intro hg; first | exact ⟨True.intro, True.intro⟩ | exact sg hg) ?_ | refine AWk_gstep hT rfl rfl rfl rfl (by intro hg; first | exact ⟨True.intro, True.intro⟩ | exact sg hg) ?_ | refine AW_seq ?_ | refine AW_region ?_ | refine AW_draw mixed (by kernel_rfl) ?_ | refine AW_block ?_ | refine AW_skip ?_ | refine AW_exit ?_ | refine AW_ret ?_)
        refine ret_exact rfl (.refl _) rfl rfl rfl rfl ⟨?_, rfl⟩
        rw [← hf, ruleErr, if_pos h3']; rfl
      · have h3' : ¬ (v < 1 ∨ v > 3) := by simpa using h3
        repeat (first | refine AWd_step hT rfl rfl rfl (by first | exact True.intro | omega | exact sd) ?_ | refine AWk_step hT rfl rfl (by first | exact True.intro | omega | exact sd) ?_ | refine AWk_step0 hT rfl (by first | exact True.intro | omega | exact sd) ?_ | refine AWd_nil ?_ | refine AWk_nil ?_ | refine AWd_gstep hT rfl rfl rfl rfl rfl (by intro hg; first | exact ⟨True.intro, True.intro⟩ | exact sg hg) ?_ | refine AWk_gstep hT rfl rfl rfl rfl (by intro hg; first | exact ⟨True.intro, True.intro⟩ | exact sg hg) ?_ | refine AW_seq ?_ | refine AW_region ?_ | refine AW_draw mixed (by kernel_rfl) ?_ | refine AW_block ?_ | refine AW_skip ?_ | refine AW_exit ?_ | refine AW_ret ?_)
        refine AWk_gop rfl rfl rfl (fun hg => ⟨by first | exact True.intro | exact ⟨hg, True.intro⟩ | exact ⟨hg, hg, True.intro⟩, callS0 rfl rfl hz rfl rfl rfl⟩) ?_
        repeat (first | refine AWd_step hT rfl rfl rfl (by first | exact True.intro | omega | exact sd) ?_ | refine AWk_step hT rfl rfl (by first | exact True.intro | omega | exact sd) ?_ | refine AWk_step0 hT rfl (by first | exact True.intro | omega | exact sd) ?_ | refine AWd_nil ?_ | refine AWk_nil ?_ | refine AWd_gstep hT rfl rfl rfl rfl rfl (by intro hg; first | exact ⟨True.intro, True.intro⟩ | exact sg hg) ?_ | refine AWk_gstep hT rfl rfl rfl rfl (by intro hg; first | exact ⟨True.intro, True.intro⟩ | exact sg hg) ?_ | refine AW_seq ?_ | refine AW_region ?_ | refine AW_draw mixed (by kernel_rfl) ?_ | refine AW_block ?_ | refine AW_skip ?_ | refine AW_exit ?_ | refine AW_ret ?_)
        refine AWk_gop rfl rfl rfl (fun hg => ⟨by first | exact True.intro | exact ⟨hg, True.intro⟩ | exact ⟨hg, hg, True.intro⟩, callS0 rfl rfl hv rfl rfl rfl⟩) ?_
        repeat (first | refine AWd_step hT rfl rfl rfl (by first | exact True.intro | omega | exact sd) ?_ | refine AWk_step hT rfl rfl (by first | exact True.intro | omega | exact sd) ?_ | refine AWk_step0 hT rfl (by first | exact True.intro | omega | exact sd) ?_ | refine AWd_nil ?_ | refine AWk_nil ?_ | refine AWd_gstep hT rfl rfl rfl rfl rfl (by intro hg; first | exact ⟨True.intro, True.intro⟩ | exact sg hg) ?_ | refine AWk_gstep hT rfl rfl rfl rfl (by intro hg; first | exact ⟨True.intro, True.intro⟩ | exact sg hg) ?_ | refine AW_seq ?_ | refine AW_region ?_ | refine AW_draw mixed (by kernel_rfl) ?_ | refine AW_block ?_ | refine AW_skip ?_ | refine AW_exit ?_ | refine AW_ret ?_)
        refine AW_condL rfl (fun h5 => ?_) (fun h5 => ?_)
        · have h5' : (al = true ∧ zc = false) ∨ (al = false ∧ validC 8 (.mk ck cc cv kids) = false) := by simpa using h5
          repeat (first | refine AWd_step hT rfl rfl rfl (by first | exact True.intro | omega | exact sd) ?_ | refine AWk_step hT rfl rfl (by first | exact True.intro | omega | exact sd) ?_ | refine AWk_step0 hT rfl (by first | exact True.intro | omega | exact sd) ?_ | refine AWd_nil ?_ | refine AWk_nil ?_ | refine AWd_gstep hT rfl rfl rfl rfl rfl (by intro hg; first | exact ⟨True.intro, True.intro⟩ | exact sg hg) ?_ | refine AWk_gstep hT rfl rfl rfl rfl (by intro hg; first | exact ⟨True.intro, True.intro⟩ | exact sg hg) ?_ | refine AW_seq ?_ | refine AW_region ?_ | refine AW_draw mixed (by kernel_rfl) ?_ | refine AW_block ?_ | refine AW_skip ?_ | refine AW_exit ?_ | refine AW_ret ?_)
          refine ret_exact rfl (.refl _) rfl rfl rfl rfl ⟨?_, rfl⟩
          have : ruleErr (.mk v al (.mk ck cc cv kids)) = 1 := by
            rw [ruleErr, if_neg h3']
            rcases h5' with ⟨h6, h7⟩ | h6
            · rw [if_pos ⟨h6, hzc.1 h7⟩]
            · rw [if_neg (by rintro ⟨h8, _⟩; rw [h6.1] at h8; cases h8), if_pos h6]
          rw [← hf, this]; rfl
        · have h5' : ¬ ((al = true ∧ zc = false) ∨ (al = false ∧ validC 8 (.mk ck cc cv kids) = false)) := by
            intro hh
            rw [show ((al && !zc) || (!al && !validC 8 (.mk ck cc cv kids))) = true by simpa using hh] at h5
            cases h5
          have hz : ruleErr (.mk v al (.mk ck cc cv kids)) = 0 := by
            rw [ruleErr, if_neg h3', if_neg (fun hh => h5' (.inl ⟨hh.1, hzc.2 hh.2⟩)), if_neg (fun hh => h5' (.inr hh))]
          rw [if_pos hz] at hf
          repeat (first | refine AWd_step hT rfl rfl rfl (by first | exact True.intro | omega | exact sd) ?_ | refine AWk_step hT rfl rfl (by first | exact True.intro | omega | exact sd) ?_ | refine AWk_step0 hT rfl (by first | exact True.intro | omega | exact sd) ?_ | refine AWd_nil ?_ | refine AWk_nil ?_ | refine AWd_gstep hT rfl rfl rfl rfl rfl (by intro hg; first | exact ⟨True.intro, True.intro⟩ | exact sg hg) ?_ | refine AWk_gstep hT rfl rfl rfl rfl (by intro hg; first | exact ⟨True.intro, True.intro⟩ | exact sg hg) ?_ | refine AW_seq ?_ | refine AW_region ?_ | refine AW_draw mixed (by kernel_rfl) ?_ | refine AW_block ?_ | refine AW_skip ?_ | refine AW_exit ?_ | refine AW_ret ?_)
          refine ⟨k + 1, [.dead], ⟨by omega, hf⟩, by omega, ⟨.refl _, AV.le.eq ?_, trivial⟩, ⟨ObLe.refl _, trivial, trivial⟩, Env.below_mono hE (by simp), rfl, rfl⟩
          show AV.d (.int .i64 (IntKind.i64.wrap ((k : Int) + 1))) = _
          rw [wrap_id (by omega)]; rfl
    · have hge : k = l.length := by rw [hlen] at h2; simp at h2; omega
      repeat (first | refine AWd_step hT rfl rfl rfl (by first | exact True.intro | omega | exact sd) ?_ | refine AWk_step hT rfl rfl (by first | exact True.intro | omega | exact sd) ?_ | refine AWk_step0 hT rfl (by first | exact True.intro | omega | exact sd) ?_ | refine AWd_nil ?_ | refine AWk_nil ?_ | refine AWd_gstep hT rfl rfl rfl rfl rfl (by intro hg; first | exact ⟨True.intro, True.intro⟩ | exact sg hg) ?_ | refine AWk_gstep hT rfl rfl rfl rfl (by intro hg; first | exact ⟨True.intro, True.intro⟩ | exact sg hg) ?_ | refine AW_seq ?_ | refine AW_region ?_ | refine AW_draw mixed (by kernel_rfl) ?_ | refine AW_block ?_ | refine AW_skip ?_ | refine AW_exit ?_ | refine AW_ret ?_)
      refine ret_exact rfl (.refl _) rfl rfl rfl rfl ⟨?_, rfl⟩
      rw [← hf, hge, List.drop_length]; rfl
end Tdoc
/- The reference: what a text means. -/
set_option linter.unusedVariables false
set_option linter.unusedSimpArgs false
namespace Tdoc
open Go Go.Proofs

/-- A cut between two pieces of code that forgets objects. -/
theorem AW_seq_cutC {P : Program} {E : Env} {N : Nat} {τ : Nat → AV} {h : List AObj} {Q : Exit → (Nat → AV) → List AObj → Prop} {x y : Code} {ι : Type} (S : ι → List (Nat × AV)) (H : ι → List AObj) (inv : ι → Prop)
    (hx : AW P E N x (thenA (fun τ' h' => ∃ i junk, inv i ∧ SubL τ' (S i) ∧ HLe h' (H i ++ junk) ∧ E.below (H i).length ∧ lowS (H i).length (S i) = true ∧ lowH (H i).length (H i) = true) Q) τ h) (hy : ∀ i, inv i → AW P E N y Q (look (S i)) (H i)) :
    AW P E N (.seq x y) Q τ h := by
  refine AW_seq (AW_mono hx fun e τ' h' hq => ?_)
  cases e with
  | normal => obtain ⟨i, junk, h1, h3, h4, h5, h6, h7⟩ := hq; exact AW_sub (Rel_cut h5 h3 h6 h4 h7) (hy i h1)
  | _ => exact hq

theorem flatL_small (kind : Int) : ∀ {l : List Cond}, smallCs l → smallCs (flatL kind l)
  | [], _ => trivial
  | a :: l, h => by
    rw [show a :: l = [a] ++ l from rfl, flatL_append, flatL_one]
    exact smallCs_append (flatC_small h.1) (flatL_small kind h.2)

theorem joinR_small {kind : Int} {l : List Cond} (h : smallCs l) (hf : (flatL kind l).length ≤ 1000000000) : smallC (joinR kind l) := by
  unfold joinR
  split
  · exact h.1
  · exact ⟨hf, flatL_small kind h⟩

def PSmall (ws : List Wd) (n : Nat) (part : RS → Cond × RS) : Prop := ∀ s, s.i ≤ ws.length → ws.length - s.i < n → smallC (part s).1

theorem loopR_small {ws : List Wd} {n : Nat} {part : RS → Cond × RS} (hp : POk ws n part) (hs : PSmall ws n part) {w : List UInt8} (hw : w ≠ []) : ∀ (m : Nat) (l : List Cond) (s : RS), ws.length - s.i < n + 1 → smallCs l → smallCs (loopR ws w part m l s).1
  | 0, l, s, hn, hl => hl
  | m + 1, l, s, hn, hl => by
    unfold loopR
    split
    · rename_i hc
      have hlt := peekR_lt (ws := ws) (s := s) (by rw [hc.2]; exact hw)
      have hi : s.inc.i = s.i + 1 := rfl
      obtain ⟨q1, q2, q3⟩ := hp.inv s.inc (by omega) (by omega)
      exact loopR_small hp hs hw m _ _ (by omega) (smallCs_append hl ⟨hs s.inc (by omega) (by omega), trivial⟩)
    · exact hl

theorem seriesR_small {ws : List Wd} {n : Nat} {part : RS → Cond × RS} (hl : ws.length ≤ 1000000) (hn1 : n ≤ 1000001) (hp : POk ws n part) (hs : PSmall ws n part) (kind : Int) {w : List UInt8} (hw : w ≠ []) : PSmall ws n (seriesR ws kind w part) := by
  intro s h hn
  have h1 := LOk.one (kind := kind) hp h hn
  have hlo := h1.lo
  have h2 := loopR_ok hp hw (ws.length + 1) _ _ h1 (by omega)
  have := h2.flat; have := h2.hi
  exact joinR_small (loopR_small hp hs hw _ _ _ (by omega) ⟨hs s h hn, trivial⟩) (by omega)

theorem atomR_small {ws : List Wd} (hl : ws.length ≤ 1000000) : ∀ n, n ≤ 1000001 → PSmall ws n (atomR ws n)
  | 0, _ => fun s _ hn => by omega
  | n + 1, hn1 => by
    have ih := atomR_small hl n (by omega)
    intro s h hn
    have hi : s.inc.i = s.i + 1 := rfl
    unfold atomR
    split
    · exact ⟨by simp, trivial⟩
    · split
      · rename_i hc
        have hlt := peekR_lt (ws := ws) (s := s) (by rw [hc]; decide)
        exact ⟨by simp, ih s.inc (by omega) (by omega), trivial⟩
      · split
        · rename_i hc
          have hlt := peekR_lt (ws := ws) (s := s) (by rw [hc]; decide)
          exact seriesR_small hl (by omega) (conjR_ok ws n) (seriesR_small hl (by omega) (atomR_ok ws n) ih 3 (w := andW) (by decide)) 4 (w := orW) (by decide) s.inc (by omega) (by omega)
        · split
          · exact ⟨by simp, trivial⟩
          · split <;> exact ⟨by simp, trivial⟩

theorem condR'_small {ws : List Wd} (hl : ws.length ≤ 1000000) {n : Nat} (hn : n ≤ 1000001) : PSmall ws n (condR' ws n) :=
  seriesR_small hl hn (conjR_ok ws n) (seriesR_small hl hn (atomR_ok ws n) (atomR_small hl n hn) 3 (w := andW) (by decide)) 4 (w := orW) (by decide)

/-- One rule, its verdict being a word. -/
def ruleR (ws : List Wd) (s : RS) : Rule × RS :=
  if peekR ws s.inc = ifW then (.mk (sIdx vds (peekR ws s) + 1) false (condR' ws (ws.length + 1) s.inc.inc).1, takeR ws (condR' ws (ws.length + 1) s.inc.inc).2 scW)
  else (.mk (sIdx vds (peekR ws s) + 1) true (.mk 0 0 0 []), takeR ws s.inc scW)

def rulesR (ws : List Wd) : Nat → List Rule → RS → List Rule × RS
  | 0, l, s => (l, s)
  | m + 1, l, s => if s.bad < 0 ∧ s.i < ws.length then (if sIdx vds (peekR ws s) + 1 = 0 then (l, failR ws s) else rulesR ws m (l ++ [(ruleR ws s).1]) (ruleR ws s).2) else (l, s)

def endR (text : List UInt8) (bro : Int) : Int := if 0 ≤ bro then bro else text.length
def parseQR (text : List UInt8) (wb : List Wd × Int) : List Rule × RS := rulesR wb.1 (wb.1.length + 1) [] ⟨0, endR text wb.2, -1⟩
def badR (wb : List Wd × Int) (s : RS) : Int := if s.bad < 0 then wb.2 else s.bad
def parseR (text : List UInt8) : List Rule × Int × Int :=
  if text.length > 4096 then ([], 0, 72)
  else if 0 ≤ badR (wordsR text (text.length + 1) 0 []) (parseQR text (wordsR text (text.length + 1) 0 [])).2 then ([], badR (wordsR text (text.length + 1) 0 []) (parseQR text (wordsR text (text.length + 1) 0 [])).2, 71)
  else if validPol (parseQR text (wordsR text (text.length + 1) 0 [])).1 ≠ 0 then ([], 0, 72) else ((parseQR text (wordsR text (text.length + 1) 0 [])).1, 0, 0)

theorem wordsR_len (text : List UInt8) : ∀ (m i : Nat) (out : List Wd), out.length ≤ i → i ≤ text.length → (wordsR text m i out).1.length ≤ text.length
  | 0, i, out, h1, h2 => by simp only [wordsR]; omega
  | m + 1, i, out, h1, h2 => by
    rw [wordsR]
    have hl := congrArg List.length (rfl : text.drop i = text.drop i)
    split
    · simp only; omega
    · rename_i c r hd
      have hlen : (c :: r).length = text.length - i := by rw [← hd]; simp
      have hc := cmt_le (c :: r); have hw := lets_le (c :: r)
      rw [hlen] at hc hw
      have hpos : 0 < text.length - i := by rw [← hlen]; simp
      split
      · exact wordsR_len text m _ _ (by omega) (by omega)
      · split
        · exact wordsR_len text m _ _ (by omega) (by omega)
        · split
          · exact wordsR_len text m _ _ (by simp; omega) (by omega)
          · split
            · rename_i hlow
              have : 0 < lets (c :: r) := by rw [lets, if_pos hlow]; omega
              exact wordsR_len text m _ _ (by simp; omega) (by omega)
            · simp only; omega

theorem ruleR_ok {ws : List Wd} (hl : ws.length ≤ 1000000) {s : RS} (h : s.i < ws.length) :
    s.i < (ruleR ws s).2.i ∧ (ruleR ws s).2.i ≤ 3000000 ∧ smallC (condR (ruleR ws s).1) := by
  have e1 : ∀ x : RS, x.inc.i = x.i + 1 := fun _ => rfl
  unfold ruleR
  split
  · rename_i hc
    have hlt := peekR_lt (ws := ws) (s := s.inc) (by rw [hc]; decide)
    rw [e1] at hlt
    obtain ⟨q1, q2, q3⟩ := (condR'_ok ws (ws.length + 1)).inv s.inc.inc (by simp only [e1]; omega) (by simp only [e1]; omega)
    simp only [e1] at q1
    exact ⟨by simp only [takeR_i]; omega, by simp only [takeR_i]; omega, condR'_small hl (by omega) s.inc.inc (by simp only [e1]; omega) (by simp only [e1]; omega)⟩
  · exact ⟨by simp only [takeR_i, e1]; omega, by simp only [takeR_i, e1]; omega, by simp, trivial⟩
end Tdoc
/- The reference: Parse. -/
set_option linter.unusedVariables false
set_option linter.unusedSimpArgs false
namespace Tdoc
open Go Go.Proofs

theorem AW_cutA {P : Program} {E : Env} {N : Nat} {τ : Nat → AV} {h : List AObj} {Q : Exit → (Nat → AV) → List AObj → Prop} {c y : Code} (S : List (Nat × AV)) (H : List AObj)
    (hx : AW P E N c (thenA (fun τ' h' => SubL τ' S ∧ HLe h' H) Q) τ h) (hy : AW P E N y Q (look S) H) : AW P E N c (thenA (fun τ h => AW P E N y Q τ h) Q) τ h := by
  refine AW_mono hx fun e τ' h' hq => ?_
  cases e with
  | normal => exact AW_subL hq.1 hq.2 hy
  | _ => exact hq

set_option maxHeartbeats 8000000 in
set_option maxRecDepth 100000 in
theorem ParseR_spec (text : List UInt8) (hl : text.length ≤ 1000000) :
    Spec Try.prog 9 [.d (.str text)] [] (fun r h' => r = .tup [polAV (parseR text).1, .d (.int .i64 (parseR text).2.1), .d (.int .i64 (parseR text).2.2)] ∧ h' = []) := by
  refine Spec_of_body hT Try.func9 rfl rfl rfl rfl ?_
  intro E hE
  have hwords := words_spec text hl
  have hwl := wordsR_len text (text.length + 1) 0 [] (by simp) (by simp)
  unfold parseR
  generalize wordsR text (text.length + 1) 0 [] = wb at hwords hwl ⊢
  obtain ⟨ws, bro⟩ := wb
  simp only at hwl hwords
  repeat (first | refine AWd_step hT rfl rfl rfl (by first | exact True.intro | omega | exact sd) ?_ | refine AWk_step hT rfl rfl (by first | exact True.intro | omega | exact sd) ?_ | refine AWk_step0 hT rfl (by first | exact True.intro | omega | exact sd) ?_ | refine AWd_nil ?_ | refine AWk_nil ?_ | refine AWd_gstep hT rfl rfl rfl rfl rfl (by intro hg; first | exact ⟨True.intro, True.intro⟩ | exact sg hg) ?_ | refine AWk_gstep hT rfl rfl rfl rfl (by intro hg; first | exact ⟨True.intro, True.intro⟩ | exact sg hg) ?_ | refine AW_seq ?_ | refine AW_region ?_ | refine AW_draw mixed (by kernel_rfl) ?_ | refine AW_block ?_ | refine AW_skip ?_ | refine AW_exit ?_ | refine AW_ret ?_)
  refine AW_condL rfl (fun h1 => ?_) (fun h1 => ?_)
  · have h1' : text.length > 4096 := by simp at h1; omega
    rw [if_pos h1']
    repeat (first | refine AWd_step hT rfl rfl rfl (by first | exact True.intro | omega | exact sd) ?_ | refine AWk_step hT rfl rfl (by first | exact True.intro | omega | exact sd) ?_ | refine AWk_step0 hT rfl (by first | exact True.intro | omega | exact sd) ?_ | refine AWd_nil ?_ | refine AWk_nil ?_ | refine AWd_gstep hT rfl rfl rfl rfl rfl (by intro hg; first | exact ⟨True.intro, True.intro⟩ | exact sg hg) ?_ | refine AWk_gstep hT rfl rfl rfl rfl (by intro hg; first | exact ⟨True.intro, True.intro⟩ | exact sg hg) ?_ | refine AW_seq ?_ | refine AW_region ?_ | refine AW_draw mixed (by kernel_rfl) ?_ | refine AW_block ?_ | refine AW_skip ?_ | refine AW_exit ?_ | refine AW_ret ?_)
    exact ret_exact (r := .tup [polAV [], .d (.int .i64 0), .d (.int .i64 72)]) rfl (AV.le.tup ⟨AV.le.agg ⟨AV.le.dat, trivial⟩, .refl _, .refl _, trivial⟩) rfl rfl rfl rfl ⟨rfl, rfl⟩
  · have h1' : ¬ text.length > 4096 := by simp at h1; omega
    rw [if_neg h1']
    generalize hq : parseQR text (ws, bro) = q
    unfold parseQR at hq
    simp only at hq
    repeat (first | refine AWd_step hT rfl rfl rfl (by first | exact True.intro | omega | exact sd) ?_ | refine AWk_step hT rfl rfl (by first | exact True.intro | omega | exact sd) ?_ | refine AWk_step0 hT rfl (by first | exact True.intro | omega | exact sd) ?_ | refine AWd_nil ?_ | refine AWk_nil ?_ | refine AWd_gstep hT rfl rfl rfl rfl rfl (by intro hg; first | exact ⟨True.intro, True.intro⟩ | exact sg hg) ?_ | refine AWk_gstep hT rfl rfl rfl rfl (by intro hg; first | exact ⟨True.intro, True.intro⟩ | exact sg hg) ?_ | refine AW_seq ?_ | refine AW_region ?_ | refine AW_draw mixed (by kernel_rfl) ?_ | refine AW_block ?_ | refine AW_skip ?_ | refine AW_exit ?_ | refine AW_ret ?_)
    refine AWk_op (callS0 rfl rfl hwords rfl rfl rfl) rfl ?_
    repeat (first | refine AWd_step hT rfl rfl rfl (by first | exact True.intro | omega | exact sd) ?_ | refine AWk_step hT rfl rfl (by first | exact True.intro | omega | exact sd) ?_ | refine AWk_step0 hT rfl (by first | exact True.intro | omega | exact sd) ?_ | refine AWd_nil ?_ | refine AWk_nil ?_ | refine AWd_gstep hT rfl rfl rfl rfl rfl (by intro hg; first | exact ⟨True.intro, True.intro⟩ | exact sg hg) ?_ | refine AWk_gstep hT rfl rfl rfl rfl (by intro hg; first | exact ⟨True.intro, True.intro⟩ | exact sg hg) ?_ | refine AW_seq ?_ | refine AW_region ?_ | refine AW_draw mixed (by kernel_rfl) ?_ | refine AW_block ?_ | refine AW_skip ?_ | refine AW_exit ?_ | refine AW_ret ?_)
    refine AW_cutA [(2, .ptr 0 0), (6, .d (.int .i64 bro)), (7, .ptr 1 0)] [.row [.sl 6 [] .full], .row (rsr ws ⟨0, endR text bro, -1⟩)] ?_ ?_
    · refine AW_condL rfl (fun h2 => ?_) (fun h2 => ?_)
      · have h2' : 0 ≤ bro := by simpa using h2
        repeat (first | refine AWd_step hT rfl rfl rfl (by first | exact True.intro | omega | exact sd) ?_ | refine AWk_step hT rfl rfl (by first | exact True.intro | omega | exact sd) ?_ | refine AWk_step0 hT rfl (by first | exact True.intro | omega | exact sd) ?_ | refine AWd_nil ?_ | refine AWk_nil ?_ | refine AWd_gstep hT rfl rfl rfl rfl rfl (by intro hg; first | exact ⟨True.intro, True.intro⟩ | exact sg hg) ?_ | refine AWk_gstep hT rfl rfl rfl rfl (by intro hg; first | exact ⟨True.intro, True.intro⟩ | exact sg hg) ?_ | refine AW_seq ?_ | refine AW_region ?_ | refine AW_draw mixed (by kernel_rfl) ?_ | refine AW_block ?_ | refine AW_skip ?_ | refine AW_exit ?_ | refine AW_ret ?_)
        exact ⟨⟨.refl _, .refl _, .refl _, trivial⟩, ⟨ObLe.refl _, ⟨.refl _, AV.le.eq rfl, AV.le.eq (by rw [endR, if_pos h2']), .refl _, trivial⟩, trivial⟩⟩
      · have h2' : ¬ 0 ≤ bro := by simpa using h2
        repeat (first | refine AW_exit ?_ | refine AW_skip ?_)
        exact ⟨⟨.refl _, .refl _, .refl _, trivial⟩, ⟨ObLe.refl _, ⟨.refl _, AV.le.eq rfl, AV.le.eq (by rw [endR, if_neg h2']), .refl _, trivial⟩, trivial⟩⟩
    · refine AW_seq (AW_region ?_)
      repeat (first | refine AWd_step hT rfl rfl rfl (by first | exact True.intro | omega | exact sd) ?_ | refine AWk_step hT rfl rfl (by first | exact True.intro | omega | exact sd) ?_ | refine AWk_step0 hT rfl (by first | exact True.intro | omega | exact sd) ?_ | refine AWd_nil ?_ | refine AWk_nil ?_ | refine AWd_gstep hT rfl rfl rfl rfl rfl (by intro hg; first | exact ⟨True.intro, True.intro⟩ | exact sg hg) ?_ | refine AWk_gstep hT rfl rfl rfl rfl (by intro hg; first | exact ⟨True.intro, True.intro⟩ | exact sg hg) ?_)
      refine AW_seq_cutC (ι := List Rule × RS) (fun x => [(2, .ptr 0 0), (6, .d (.int .i64 bro)), (7, .ptr 1 0), (8, .ptr 2 0)]) (fun x => [.row [.sl 6 [] .full], .row (rsr ws x.2), .row [.d (.sl 6 (encRs x.1))], .dead])
        (fun x => x = q ∧ ∀ r, r ∈ x.1 → smallC (condR r)) ?_ ?_
      · refine AW_block ?_
        refine AW_room (AW_acquireH 2 0 3 6 rfl rfl rfl ?_)
        refine AW_loopC (ι := List Rule × RS)
          (fun x => [(2, .ptr 0 0), (6, .d (.int .i64 bro)), (7, .ptr 1 0), (8, .ptr 2 0)])
          (fun x => [.row [.sl 6 [] .full], .row (rsr ws x.2), .row [.sl 6 (encRs x.1) (.right 3)], .right 6 (encRs x.1).length])
          (fun x => x.1.length ≤ x.2.i ∧ (∀ r, r ∈ x.1 → smallC (condR r)) ∧ ∃ m, ws.length - x.2.i < m ∧ rulesR ws m x.1 x.2 = q)
          (fun x => ws.length - x.2.i) ([], ⟨0, endR text bro, -1⟩) ⟨by simp, (fun r hr => (by cases hr)), ws.length + 1, by simp only; omega, hq⟩
          ⟨.refl _, .refl _, .refl _, .refl _, trivial⟩ (HLe.refl _) ?_
        rintro ⟨l, s⟩ ⟨j2, j3, m, j4, j5⟩
        simp only at j2 j3 j4 j5 ⊢
        obtain ⟨m, rfl⟩ : ∃ m', m = m' + 1 := ⟨m - 1, by omega⟩
        rw [rulesR] at j5
        have hwsl := encWs_length ws
        have hpk := peek_spec ws s
        have hfl := fail_spec ws s
        have hpk1 := peek_spec ws s.inc
        have hrok := fun h => ruleR_ok (ws := ws) (by omega) (s := s) h
        obtain ⟨i, en, bad⟩ := s
        simp only at j2 j4 hrok
        repeat (first | refine AWd_step hT rfl rfl rfl (by first | exact True.intro | omega | exact sd) ?_ | refine AWk_step hT rfl rfl (by first | exact True.intro | omega | exact sd) ?_ | refine AWk_step0 hT rfl (by first | exact True.intro | omega | exact sd) ?_ | refine AWd_nil ?_ | refine AWk_nil ?_ | refine AWd_gstep hT rfl rfl rfl rfl rfl (by intro hg; first | exact ⟨True.intro, True.intro⟩ | exact sg hg) ?_ | refine AWk_gstep hT rfl rfl rfl rfl (by intro hg; first | exact ⟨True.intro, True.intro⟩ | exact sg hg) ?_ | refine AW_seq ?_ | refine AW_region ?_ | refine AW_draw mixed (by kernel_rfl) ?_ | refine AW_block ?_ | refine AW_skip ?_ | refine AW_exit ?_ | refine AW_ret ?_)
        refine AW_condL rfl (fun h2 => ?_) (fun h2 => ?_)
        · have h2' : bad < 0 ∧ i < ws.length := by rw [hwsl] at h2; simpa using h2
          rw [if_pos h2'] at j5
          obtain ⟨r1, r2, r3⟩ := hrok h2'.2
          have hwr : IntKind.i64.wrap ((i : Int) + 1) = ((i + 1 : Nat) : Int) := by rw [wrap_id (by omega)]; simp
          have hwr2 : IntKind.i64.wrap (((i + 1 : Nat) : Int) + 1) = ((i + 1 + 1 : Nat) : Int) := by rw [wrap_id (by omega)]; simp
          repeat (first | refine AWd_step hT rfl rfl rfl (by first | exact True.intro | omega | exact sd) ?_ | refine AWk_step hT rfl rfl (by first | exact True.intro | omega | exact sd) ?_ | refine AWk_step0 hT rfl (by first | exact True.intro | omega | exact sd) ?_ | refine AWd_nil ?_ | refine AWk_nil ?_ | refine AWd_gstep hT rfl rfl rfl rfl rfl (by intro hg; first | exact ⟨True.intro, True.intro⟩ | exact sg hg) ?_ | refine AWk_gstep hT rfl rfl rfl rfl (by intro hg; first | exact ⟨True.intro, True.intro⟩ | exact sg hg) ?_ | refine AW_seq ?_ | refine AW_region ?_ | refine AW_draw mixed (by kernel_rfl) ?_ | refine AW_block ?_ | refine AW_skip ?_ | refine AW_exit ?_ | refine AW_ret ?_)
          refine AWk_op (callS0 rfl rfl verdicts_spec rfl rfl rfl) rfl ?_
          repeat (first | refine AWd_step hT rfl rfl rfl (by first | exact True.intro | omega | exact sd) ?_ | refine AWk_step hT rfl rfl (by first | exact True.intro | omega | exact sd) ?_ | refine AWk_step0 hT rfl (by first | exact True.intro | omega | exact sd) ?_ | refine AWd_nil ?_ | refine AWk_nil ?_ | refine AWd_gstep hT rfl rfl rfl rfl rfl (by intro hg; first | exact ⟨True.intro, True.intro⟩ | exact sg hg) ?_ | refine AWk_gstep hT rfl rfl rfl rfl (by intro hg; first | exact ⟨True.intro, True.intro⟩ | exact sg hg) ?_ | refine AW_seq ?_ | refine AW_region ?_ | refine AW_draw mixed (by kernel_rfl) ?_ | refine AW_block ?_ | refine AW_skip ?_ | refine AW_exit ?_ | refine AW_ret ?_)
          refine AWk_op (callS1 rfl rfl hpk [1] (by decide) rfl rfl rfl rfl rfl rfl rfl) rfl ?_
          refine AWk_op (callS0 rfl rfl (find_spec [] vds _ (by decide)) rfl rfl rfl) rfl ?_
          repeat (first | refine AWd_step hT rfl rfl rfl (by first | exact True.intro | omega | exact sd) ?_ | refine AWk_step hT rfl rfl (by first | exact True.intro | omega | exact sd) ?_ | refine AWk_step0 hT rfl (by first | exact True.intro | omega | exact sd) ?_ | refine AWd_nil ?_ | refine AWk_nil ?_ | refine AWd_gstep hT rfl rfl rfl rfl rfl (by intro hg; first | exact ⟨True.intro, True.intro⟩ | exact sg hg) ?_ | refine AWk_gstep hT rfl rfl rfl rfl (by intro hg; first | exact ⟨True.intro, True.intro⟩ | exact sg hg) ?_ | refine AW_seq ?_ | refine AW_region ?_ | refine AW_draw mixed (by kernel_rfl) ?_ | refine AW_block ?_ | refine AW_skip ?_ | refine AW_exit ?_ | refine AW_ret ?_)
          refine AW_condL rfl (fun h3 => ?_) (fun h3 => ?_)
          · have h3' : sIdx vds (peekR ws ⟨i, en, bad⟩) + 1 = 0 := by simpa using h3
            rw [if_pos h3'] at j5
            repeat (first | refine AWd_step hT rfl rfl rfl (by first | exact True.intro | omega | exact sd) ?_ | refine AWk_step hT rfl rfl (by first | exact True.intro | omega | exact sd) ?_ | refine AWk_step0 hT rfl (by first | exact True.intro | omega | exact sd) ?_ | refine AWd_nil ?_ | refine AWk_nil ?_ | refine AWd_gstep hT rfl rfl rfl rfl rfl (by intro hg; first | exact ⟨True.intro, True.intro⟩ | exact sg hg) ?_ | refine AWk_gstep hT rfl rfl rfl rfl (by intro hg; first | exact ⟨True.intro, True.intro⟩ | exact sg hg) ?_ | refine AW_seq ?_ | refine AW_region ?_ | refine AW_draw mixed (by kernel_rfl) ?_ | refine AW_block ?_ | refine AW_skip ?_ | refine AW_exit ?_ | refine AW_ret ?_)
            refine AWk_op (callS1 rfl rfl hfl [1] (by decide) rfl rfl rfl (lowH_rsr 0 _ _) (lowH_rsr 0 _ _) rfl rfl) rfl ?_
            repeat (first | refine AWd_step hT rfl rfl rfl (by first | exact True.intro | omega | exact sd) ?_ | refine AWk_step hT rfl rfl (by first | exact True.intro | omega | exact sd) ?_ | refine AWk_step0 hT rfl (by first | exact True.intro | omega | exact sd) ?_ | refine AWd_nil ?_ | refine AWk_nil ?_ | refine AWd_gstep hT rfl rfl rfl rfl rfl (by intro hg; first | exact ⟨True.intro, True.intro⟩ | exact sg hg) ?_ | refine AWk_gstep hT rfl rfl rfl rfl (by intro hg; first | exact ⟨True.intro, True.intro⟩ | exact sg hg) ?_ | refine AW_seq ?_ | refine AW_region ?_ | refine AW_draw mixed (by kernel_rfl) ?_ | refine AW_block ?_ | refine AW_skip ?_ | refine AW_exit ?_ | refine AW_ret ?_)
            refine ⟨(l, failR ws ⟨i, en, bad⟩), [.dead], ⟨j5, j3⟩, ⟨.refl _, .refl _, .refl _, .refl _, trivial⟩, ⟨ObLe.refl _, ObLe.refl _, ⟨AV.le.dat, trivial⟩, trivial, trivial, trivial⟩, Env.below_mono hE (by simp), rfl, ?_⟩
            simp only [lowH, lowO, low_rsr]; rfl
          · have h3' : ¬ sIdx vds (peekR ws ⟨i, en, bad⟩) + 1 = 0 := by simpa using h3
            rw [if_neg h3'] at j5
            repeat (first | refine AWd_step hT rfl rfl rfl (by first | exact True.intro | omega | exact sd) ?_ | refine AWk_step hT rfl rfl (by first | exact True.intro | omega | exact sd) ?_ | refine AWk_step0 hT rfl (by first | exact True.intro | omega | exact sd) ?_ | refine AWd_nil ?_ | refine AWk_nil ?_ | refine AWd_gstep hT rfl rfl rfl rfl rfl (by intro hg; first | exact ⟨True.intro, True.intro⟩ | exact sg hg) ?_ | refine AWk_gstep hT rfl rfl rfl rfl (by intro hg; first | exact ⟨True.intro, True.intro⟩ | exact sg hg) ?_ | refine AW_seq ?_ | refine AW_region ?_ | refine AW_draw mixed (by kernel_rfl) ?_ | refine AW_block ?_ | refine AW_skip ?_ | refine AW_exit ?_ | refine AW_ret ?_)
            refine AWk_op (callS1 rfl rfl hpk1 [1] (by decide) (by show [some (AObj.row [_, .d (.int .i64 (IntKind.i64.wrap ((i : Int) + 1))), _, _])] = _; rw [hwr]; rfl) rfl rfl rfl rfl rfl rfl) rfl ?_
            repeat (first | refine AWd_step hT rfl rfl rfl (by first | exact True.intro | omega | exact sd) ?_ | refine AWk_step hT rfl rfl (by first | exact True.intro | omega | exact sd) ?_ | refine AWk_step0 hT rfl (by first | exact True.intro | omega | exact sd) ?_ | refine AWd_nil ?_ | refine AWk_nil ?_ | refine AWd_gstep hT rfl rfl rfl rfl rfl (by intro hg; first | exact ⟨True.intro, True.intro⟩ | exact sg hg) ?_ | refine AWk_gstep hT rfl rfl rfl rfl (by intro hg; first | exact ⟨True.intro, True.intro⟩ | exact sg hg) ?_ | refine AW_seq ?_ | refine AW_region ?_ | refine AW_draw mixed (by kernel_rfl) ?_ | refine AW_block ?_ | refine AW_skip ?_ | refine AW_exit ?_ | refine AW_ret ?_)
            refine AW_condL rfl (fun h4 => ?_) (fun h4 => ?_)
            · have h4' : peekR ws (RS.inc ⟨i, en, bad⟩) = ifW := by simpa [ifW] using h4
              have hlt1 : i + 1 < ws.length := peekR_lt (ws := ws) (s := RS.inc ⟨i, en, bad⟩) (by rw [h4']; decide)
              have hS := condAll_spec (ws := ws) (by omega) (n := ws.length + 1) (by omega) (RS.inc (RS.inc ⟨i, en, bad⟩)) (by show i + 1 + 1 ≤ _; omega) (by show _ - (i + 1 + 1) < _; omega)
              have hco := (condR'_ok ws (ws.length + 1)).inv (RS.inc (RS.inc ⟨i, en, bad⟩)) (by show i + 1 + 1 ≤ _; omega) (by show _ - (i + 1 + 1) < _; omega)
              rw [ruleR, if_pos h4'] at j5 r1 r2 r3
              generalize condR' ws (ws.length + 1) (RS.inc (RS.inc ⟨i, en, bad⟩)) = cs at hS hco j5 r1 r2 r3
              obtain ⟨⟨ck, cc, cv, kids⟩, s2⟩ := cs
              simp only at hS hco j5 r1 r2 r3
              have htake := take_spec ws s2 scW (by omega)
              generalize takeR ws s2 scW = s3 at htake j5 r1 r2
              repeat (first | refine AWd_step hT rfl rfl rfl (by first | exact True.intro | omega | exact sd) ?_ | refine AWk_step hT rfl rfl (by first | exact True.intro | omega | exact sd) ?_ | refine AWk_step0 hT rfl (by first | exact True.intro | omega | exact sd) ?_ | refine AWd_nil ?_ | refine AWk_nil ?_ | refine AWd_gstep hT rfl rfl rfl rfl rfl (by intro hg; first | exact ⟨True.intro, True.intro⟩ | exact sg hg) ?_ | refine AWk_gstep hT rfl rfl rfl rfl (by intro hg; first | exact ⟨True.intro, True.intro⟩ | exact sg hg) ?_ | refine AW_seq ?_ | refine AW_region ?_ | refine AW_draw mixed (by kernel_rfl) ?_ | refine AW_block ?_ | refine AW_skip ?_ | refine AW_exit ?_ | refine AW_ret ?_)
              refine AWk_op (callS1 rfl rfl hS [1] (by decide) (by show [some (AObj.row [_, .d (.int .i64 (IntKind.i64.wrap (((i + 1 : Nat) : Int) + 1))), _, _])] = _; rw [hwr2]; rfl) rfl rfl (lowH_rsr 0 _ _) (lowH_rsr 0 _ _) (ren_cAV _ _) rfl) rfl ?_
              repeat (first | refine AWd_step hT rfl rfl rfl (by first | exact True.intro | omega | exact sd) ?_ | refine AWk_step hT rfl rfl (by first | exact True.intro | omega | exact sd) ?_ | refine AWk_step0 hT rfl (by first | exact True.intro | omega | exact sd) ?_ | refine AWd_nil ?_ | refine AWk_nil ?_ | refine AWd_gstep hT rfl rfl rfl rfl rfl (by intro hg; first | exact ⟨True.intro, True.intro⟩ | exact sg hg) ?_ | refine AWk_gstep hT rfl rfl rfl rfl (by intro hg; first | exact ⟨True.intro, True.intro⟩ | exact sg hg) ?_ | refine AW_seq ?_ | refine AW_region ?_ | refine AW_draw mixed (by kernel_rfl) ?_ | refine AW_block ?_ | refine AW_skip ?_ | refine AW_exit ?_ | refine AW_ret ?_)
              refine AWk_op (callS1 rfl rfl htake [1] (by decide) rfl rfl rfl (lowH_rsr 0 _ _) (lowH_rsr 0 _ _) rfl rfl) rfl ?_
              repeat (first | refine AWd_step hT rfl rfl rfl (by first | exact True.intro | omega | exact sd) ?_ | refine AWk_step hT rfl rfl (by first | exact True.intro | omega | exact sd) ?_ | refine AWk_step0 hT rfl (by first | exact True.intro | omega | exact sd) ?_ | refine AWd_nil ?_ | refine AWk_nil ?_ | refine AWd_gstep hT rfl rfl rfl rfl rfl (by intro hg; first | exact ⟨True.intro, True.intro⟩ | exact sg hg) ?_ | refine AWk_gstep hT rfl rfl rfl rfl (by intro hg; first | exact ⟨True.intro, True.intro⟩ | exact sg hg) ?_ | refine AW_seq ?_ | refine AW_region ?_ | refine AW_draw mixed (by kernel_rfl) ?_ | refine AW_block ?_ | refine AW_skip ?_ | refine AW_exit ?_ | refine AW_ret ?_)
              refine AWk_op (append_right (i := 3) hT rfl rfl rfl rfl rfl rfl (by show ((encRs l).length + 1) * (64 + 1) ≤ 140737488355328; simp [encRs]; omega)) rfl ?_
              repeat (first | refine AWd_step hT rfl rfl rfl (by first | exact True.intro | omega | exact sd) ?_ | refine AWk_step hT rfl rfl (by first | exact True.intro | omega | exact sd) ?_ | refine AWk_step0 hT rfl (by first | exact True.intro | omega | exact sd) ?_ | refine AWd_nil ?_ | refine AWk_nil ?_ | refine AWd_gstep hT rfl rfl rfl rfl rfl (by intro hg; first | exact ⟨True.intro, True.intro⟩ | exact sg hg) ?_ | refine AWk_gstep hT rfl rfl rfl rfl (by intro hg; first | exact ⟨True.intro, True.intro⟩ | exact sg hg) ?_ | refine AW_seq ?_ | refine AW_region ?_ | refine AW_draw mixed (by kernel_rfl) ?_ | refine AW_block ?_ | refine AW_skip ?_ | refine AW_exit ?_ | refine AW_ret ?_)
              refine ⟨(l ++ [.mk (sIdx vds (peekR ws ⟨i, en, bad⟩) + 1) false (.mk ck cc cv kids)], s3), [.dead], ⟨by simp only [List.length_append, List.length_cons, List.length_nil]; omega, ?_, m, by simp only; omega, j5⟩, by simp only; omega, ⟨.refl _, .refl _, .refl _, .refl _, trivial⟩, ⟨ObLe.refl _, ObLe.refl _, ?_, ?_, trivial, trivial⟩, Env.below_mono hE (by simp), rfl, ?_⟩
              · intro r hr
                rcases List.mem_append.1 hr with hr | hr
                · exact j3 r hr
                · simp at hr; subst hr; exact r3
              · simp only [encRs_append]; exact ObLe.refl _
              · simp only [encRs_append, List.length_append]; exact ObLe.refl _
              · simp only [lowH, lowO, low_rsr]; rfl
            · have h4' : ¬ peekR ws (RS.inc ⟨i, en, bad⟩) = ifW := by simpa [ifW] using h4
              rw [ruleR, if_neg h4'] at j5 r1 r2 r3
              simp only at j5 r1 r2 r3
              have htake := take_spec ws (RS.inc ⟨i, en, bad⟩) scW (by show i + 1 ≤ _; omega)
              generalize takeR ws (RS.inc ⟨i, en, bad⟩) scW = s3 at htake j5 r1 r2
              repeat (first | refine AW_exit ?_ | refine AW_skip ?_)
              refine AW_subL (l := [(2, .ptr 0 0), (6, .d (.int .i64 bro)), (7, .ptr 1 0), (8, .ptr 2 0), (9, .ptr 4 0)]) (h' := [.row [.sl 6 [] .full], .row (rsr ws (RS.inc ⟨i, en, bad⟩)), .row [.sl 6 (encRs l) (.right 3)], .right 6 (encRs l).length, .row [.d (.int .i64 (sIdx vds (peekR ws ⟨i, en, bad⟩) + 1)), .d (.bool true), .d (.int .i64 0), .d (.int .i64 0), .d (.int .i64 0), .d (.sl 4 [])]]) ⟨.refl _, .refl _, .refl _, .refl _, .refl _, trivial⟩ ⟨ObLe.refl _, ObLe.refl _, ObLe.refl _, ObLe.refl _, ⟨.refl _, .refl _, .refl _, .refl _, .refl _, AV.le.dat, trivial⟩, trivial⟩ ?_
              repeat (first | refine AWd_step hT rfl rfl rfl (by first | exact True.intro | omega | exact sd) ?_ | refine AWk_step hT rfl rfl (by first | exact True.intro | omega | exact sd) ?_ | refine AWk_step0 hT rfl (by first | exact True.intro | omega | exact sd) ?_ | refine AWd_nil ?_ | refine AWk_nil ?_ | refine AWd_gstep hT rfl rfl rfl rfl rfl (by intro hg; first | exact ⟨True.intro, True.intro⟩ | exact sg hg) ?_ | refine AWk_gstep hT rfl rfl rfl rfl (by intro hg; first | exact ⟨True.intro, True.intro⟩ | exact sg hg) ?_ | refine AW_seq ?_ | refine AW_region ?_ | refine AW_draw mixed (by kernel_rfl) ?_ | refine AW_block ?_ | refine AW_skip ?_ | refine AW_exit ?_ | refine AW_ret ?_)
              refine AWk_op (callS1 rfl rfl htake [1] (by decide) rfl rfl rfl (lowH_rsr 0 _ _) (lowH_rsr 0 _ _) rfl rfl) rfl ?_
              repeat (first | refine AWd_step hT rfl rfl rfl (by first | exact True.intro | omega | exact sd) ?_ | refine AWk_step hT rfl rfl (by first | exact True.intro | omega | exact sd) ?_ | refine AWk_step0 hT rfl (by first | exact True.intro | omega | exact sd) ?_ | refine AWd_nil ?_ | refine AWk_nil ?_ | refine AWd_gstep hT rfl rfl rfl rfl rfl (by intro hg; first | exact ⟨True.intro, True.intro⟩ | exact sg hg) ?_ | refine AWk_gstep hT rfl rfl rfl rfl (by intro hg; first | exact ⟨True.intro, True.intro⟩ | exact sg hg) ?_ | refine AW_seq ?_ | refine AW_region ?_ | refine AW_draw mixed (by kernel_rfl) ?_ | refine AW_block ?_ | refine AW_skip ?_ | refine AW_exit ?_ | refine AW_ret ?_)
              refine AWk_op (append_right (i := 3) hT rfl rfl rfl rfl rfl rfl (by show ((encRs l).length + 1) * (64 + 1) ≤ 140737488355328; simp [encRs]; omega)) rfl ?_
              repeat (first | refine AWd_step hT rfl rfl rfl (by first | exact True.intro | omega | exact sd) ?_ | refine AWk_step hT rfl rfl (by first | exact True.intro | omega | exact sd) ?_ | refine AWk_step0 hT rfl (by first | exact True.intro | omega | exact sd) ?_ | refine AWd_nil ?_ | refine AWk_nil ?_ | refine AWd_gstep hT rfl rfl rfl rfl rfl (by intro hg; first | exact ⟨True.intro, True.intro⟩ | exact sg hg) ?_ | refine AWk_gstep hT rfl rfl rfl rfl (by intro hg; first | exact ⟨True.intro, True.intro⟩ | exact sg hg) ?_ | refine AW_seq ?_ | refine AW_region ?_ | refine AW_draw mixed (by kernel_rfl) ?_ | refine AW_block ?_ | refine AW_skip ?_ | refine AW_exit ?_ | refine AW_ret ?_)
              refine ⟨(l ++ [.mk (sIdx vds (peekR ws ⟨i, en, bad⟩) + 1) true (.mk 0 0 0 [])], s3), [.dead], ⟨by simp only [List.length_append, List.length_cons, List.length_nil]; omega, ?_, m, by simp only; omega, j5⟩, by simp only; omega, ⟨.refl _, .refl _, .refl _, .refl _, trivial⟩, ⟨ObLe.refl _, ObLe.refl _, ?_, ?_, trivial, trivial⟩, Env.below_mono hE (by simp), rfl, ?_⟩
              · intro r hr
                rcases List.mem_append.1 hr with hr | hr
                · exact j3 r hr
                · simp at hr; subst hr; exact r3
              · simp only [encRs_append]; exact ObLe.refl _
              · simp only [encRs_append, List.length_append]; exact ObLe.refl _
              · simp only [lowH, lowO, low_rsr]; rfl
        · have h2' : ¬ (bad < 0 ∧ i < ws.length) := by
            rw [hwsl] at h2
            intro hh
            rw [show (decide (bad < 0) && decide ((i : Int) < (ws.length : Int))) = true by simpa using hh] at h2
            cases h2
          rw [if_neg h2'] at j5
          repeat (first | refine AWd_step hT rfl rfl rfl (by first | exact True.intro | omega | exact sd) ?_ | refine AWk_step hT rfl rfl (by first | exact True.intro | omega | exact sd) ?_ | refine AWk_step0 hT rfl (by first | exact True.intro | omega | exact sd) ?_ | refine AWd_nil ?_ | refine AWk_nil ?_ | refine AWd_gstep hT rfl rfl rfl rfl rfl (by intro hg; first | exact ⟨True.intro, True.intro⟩ | exact sg hg) ?_ | refine AWk_gstep hT rfl rfl rfl rfl (by intro hg; first | exact ⟨True.intro, True.intro⟩ | exact sg hg) ?_ | refine AW_seq ?_ | refine AW_region ?_ | refine AW_draw mixed (by kernel_rfl) ?_ | refine AW_block ?_ | refine AW_skip ?_ | refine AW_exit ?_ | refine AW_ret ?_)
          refine ⟨(l, ⟨i, en, bad⟩), [], ⟨j5, j3⟩, ⟨.refl _, .refl _, .refl _, .refl _, trivial⟩, ⟨ObLe.refl _, ObLe.refl _, ⟨AV.le.dat, trivial⟩, trivial, trivial⟩, Env.below_mono hE (by simp), rfl, rfl⟩
      · rintro ⟨l, s⟩ ⟨hx, hsm⟩
        subst hx
        have hv := ValidR_spec l hsm
        obtain ⟨i, en, bad⟩ := s
        simp only at hv ⊢
        repeat (first | refine AWd_step hT rfl rfl rfl (by first | exact True.intro | omega | exact sd) ?_ | refine AWk_step hT rfl rfl (by first | exact True.intro | omega | exact sd) ?_ | refine AWk_step0 hT rfl (by first | exact True.intro | omega | exact sd) ?_ | refine AWd_nil ?_ | refine AWk_nil ?_ | refine AWd_gstep hT rfl rfl rfl rfl rfl (by intro hg; first | exact ⟨True.intro, True.intro⟩ | exact sg hg) ?_ | refine AWk_gstep hT rfl rfl rfl rfl (by intro hg; first | exact ⟨True.intro, True.intro⟩ | exact sg hg) ?_ | refine AW_seq ?_ | refine AW_region ?_ | refine AW_draw mixed (by kernel_rfl) ?_ | refine AW_block ?_ | refine AW_skip ?_ | refine AW_exit ?_ | refine AW_ret ?_)
        refine AW_condL rfl (fun h2 => ?_) (fun h2 => ?_)
        · have h2' : bad < 0 := by simpa using h2
          have hbr : badR (ws, bro) ⟨i, en, bad⟩ = bro := by rw [badR, if_pos h2']
          rw [hbr]
          repeat (first | refine AWd_step hT rfl rfl rfl (by first | exact True.intro | omega | exact sd) ?_ | refine AWk_step hT rfl rfl (by first | exact True.intro | omega | exact sd) ?_ | refine AWk_step0 hT rfl (by first | exact True.intro | omega | exact sd) ?_ | refine AWd_nil ?_ | refine AWk_nil ?_ | refine AWd_gstep hT rfl rfl rfl rfl rfl (by intro hg; first | exact ⟨True.intro, True.intro⟩ | exact sg hg) ?_ | refine AWk_gstep hT rfl rfl rfl rfl (by intro hg; first | exact ⟨True.intro, True.intro⟩ | exact sg hg) ?_ | refine AW_seq ?_ | refine AW_region ?_ | refine AW_draw mixed (by kernel_rfl) ?_ | refine AW_block ?_ | refine AW_skip ?_ | refine AW_exit ?_ | refine AW_ret ?_)
          refine AW_condL rfl (fun h3 => ?_) (fun h3 => ?_)
          · have h3' : 0 ≤ bro := by simpa using h3
            rw [if_pos h3']
            refine AW_seq ?_
            refine AW_drawG (fun i => bif Nat.beq i 4 then [1] else bif Nat.beq i 5 then [0] else []) (fun i => bif Nat.beq i 5 then [0] else []) mixed (by kernel_rfl) ?_
            repeat (first | refine AWg_load hT rfl rfl rfl rfl (by first | exact List.mem_cons_self | exact sm) rfl ?_ | refine AWg_pure hT (fun _ => rfl) rfl rfl (by first | exact True.intro | omega | exact sd) ?_ | refine AWg_store hT rfl rfl rfl (by first | exact List.mem_cons_self | exact sm) rfl ?_ | refine AWd_nil ?_)
            repeat (first | refine AWd_step hT rfl rfl rfl (by first | exact True.intro | omega | exact sd) ?_ | refine AWk_step hT rfl rfl (by first | exact True.intro | omega | exact sd) ?_ | refine AWk_step0 hT rfl (by first | exact True.intro | omega | exact sd) ?_ | refine AWd_nil ?_ | refine AWk_nil ?_ | refine AWd_gstep hT rfl rfl rfl rfl rfl (by intro hg; first | exact ⟨True.intro, True.intro⟩ | exact sg hg) ?_ | refine AWk_gstep hT rfl rfl rfl rfl (by intro hg; first | exact ⟨True.intro, True.intro⟩ | exact sg hg) ?_ | refine AW_seq ?_ | refine AW_region ?_ | refine AW_draw mixed (by kernel_rfl) ?_ | refine AW_block ?_ | refine AW_skip ?_ | refine AW_exit ?_ | refine AW_ret ?_)
            exact ret_exact (r := .tup [polAV [], .d (.int .i64 bro), .d (.int .i64 71)]) rfl (AV.le.tup ⟨AV.le.agg ⟨AV.le.dat, trivial⟩, .refl _, .refl _, trivial⟩) rfl rfl rfl rfl ⟨rfl, rfl⟩
          · have h3' : ¬ 0 ≤ bro := by simpa using h3
            rw [if_neg h3']
            repeat (first | refine AWd_step hT rfl rfl rfl (by first | exact True.intro | omega | exact sd) ?_ | refine AWk_step hT rfl rfl (by first | exact True.intro | omega | exact sd) ?_ | refine AWk_step0 hT rfl (by first | exact True.intro | omega | exact sd) ?_ | refine AWd_nil ?_ | refine AWk_nil ?_ | refine AWd_gstep hT rfl rfl rfl rfl rfl (by intro hg; first | exact ⟨True.intro, True.intro⟩ | exact sg hg) ?_ | refine AWk_gstep hT rfl rfl rfl rfl (by intro hg; first | exact ⟨True.intro, True.intro⟩ | exact sg hg) ?_ | refine AW_seq ?_ | refine AW_region ?_ | refine AW_draw mixed (by kernel_rfl) ?_ | refine AW_block ?_ | refine AW_skip ?_ | refine AW_exit ?_ | refine AW_ret ?_)
            refine AWk_op (callS0 rfl rfl hv rfl rfl rfl) rfl ?_
            repeat (first | refine AWd_step hT rfl rfl rfl (by first | exact True.intro | omega | exact sd) ?_ | refine AWk_step hT rfl rfl (by first | exact True.intro | omega | exact sd) ?_ | refine AWk_step0 hT rfl (by first | exact True.intro | omega | exact sd) ?_ | refine AWd_nil ?_ | refine AWk_nil ?_ | refine AWd_gstep hT rfl rfl rfl rfl rfl (by intro hg; first | exact ⟨True.intro, True.intro⟩ | exact sg hg) ?_ | refine AWk_gstep hT rfl rfl rfl rfl (by intro hg; first | exact ⟨True.intro, True.intro⟩ | exact sg hg) ?_ | refine AW_seq ?_ | refine AW_region ?_ | refine AW_draw mixed (by kernel_rfl) ?_ | refine AW_block ?_ | refine AW_skip ?_ | refine AW_exit ?_ | refine AW_ret ?_)
            refine AW_condL rfl (fun h4 => ?_) (fun h4 => ?_)
            · have h4' : validPol l ≠ 0 := by simpa using h4
              rw [if_pos h4']
              repeat (first | refine AWd_step hT rfl rfl rfl (by first | exact True.intro | omega | exact sd) ?_ | refine AWk_step hT rfl rfl (by first | exact True.intro | omega | exact sd) ?_ | refine AWk_step0 hT rfl (by first | exact True.intro | omega | exact sd) ?_ | refine AWd_nil ?_ | refine AWk_nil ?_ | refine AWd_gstep hT rfl rfl rfl rfl rfl (by intro hg; first | exact ⟨True.intro, True.intro⟩ | exact sg hg) ?_ | refine AWk_gstep hT rfl rfl rfl rfl (by intro hg; first | exact ⟨True.intro, True.intro⟩ | exact sg hg) ?_ | refine AW_seq ?_ | refine AW_region ?_ | refine AW_draw mixed (by kernel_rfl) ?_ | refine AW_block ?_ | refine AW_skip ?_ | refine AW_exit ?_ | refine AW_ret ?_)
              exact ret_exact (r := .tup [polAV [], .d (.int .i64 0), .d (.int .i64 72)]) rfl (AV.le.tup ⟨AV.le.agg ⟨AV.le.dat, trivial⟩, .refl _, .refl _, trivial⟩) rfl rfl rfl rfl ⟨rfl, rfl⟩
            · have h4' : ¬ validPol l ≠ 0 := by simpa using h4
              rw [if_neg h4']
              repeat (first | refine AWd_step hT rfl rfl rfl (by first | exact True.intro | omega | exact sd) ?_ | refine AWk_step hT rfl rfl (by first | exact True.intro | omega | exact sd) ?_ | refine AWk_step0 hT rfl (by first | exact True.intro | omega | exact sd) ?_ | refine AWd_nil ?_ | refine AWk_nil ?_ | refine AWd_gstep hT rfl rfl rfl rfl rfl (by intro hg; first | exact ⟨True.intro, True.intro⟩ | exact sg hg) ?_ | refine AWk_gstep hT rfl rfl rfl rfl (by intro hg; first | exact ⟨True.intro, True.intro⟩ | exact sg hg) ?_ | refine AW_seq ?_ | refine AW_region ?_ | refine AW_draw mixed (by kernel_rfl) ?_ | refine AW_block ?_ | refine AW_skip ?_ | refine AW_exit ?_ | refine AW_ret ?_)
              exact ret_exact (r := .tup [polAV l, .d (.int .i64 0), .d (.int .i64 0)]) rfl (AV.le.tup ⟨.refl _, .refl _, .refl _, trivial⟩) rfl rfl rfl rfl ⟨rfl, rfl⟩
        · have h2' : ¬ bad < 0 := by simpa using h2
          have hbr : badR (ws, bro) ⟨i, en, bad⟩ = bad := by rw [badR, if_neg h2']
          rw [hbr, if_pos (by omega)]
          repeat (first | refine AWd_step hT rfl rfl rfl (by first | exact True.intro | omega | exact sd) ?_ | refine AWk_step hT rfl rfl (by first | exact True.intro | omega | exact sd) ?_ | refine AWk_step0 hT rfl (by first | exact True.intro | omega | exact sd) ?_ | refine AWd_nil ?_ | refine AWk_nil ?_ | refine AWd_gstep hT rfl rfl rfl rfl rfl (by intro hg; first | exact ⟨True.intro, True.intro⟩ | exact sg hg) ?_ | refine AWk_gstep hT rfl rfl rfl rfl (by intro hg; first | exact ⟨True.intro, True.intro⟩ | exact sg hg) ?_ | refine AW_seq ?_ | refine AW_region ?_ | refine AW_draw mixed (by kernel_rfl) ?_ | refine AW_block ?_ | refine AW_skip ?_ | refine AW_exit ?_ | refine AW_ret ?_)
          refine AW_condL rfl (fun h3 => ?_) (fun h3 => by simp at h3; omega)
          refine AW_seq ?_
          refine AW_drawG (fun i => bif Nat.beq i 4 then [1] else bif Nat.beq i 5 then [0] else []) (fun i => bif Nat.beq i 5 then [0] else []) mixed (by kernel_rfl) ?_
          repeat (first | refine AWg_load hT rfl rfl rfl rfl (by first | exact List.mem_cons_self | exact sm) rfl ?_ | refine AWg_pure hT (fun _ => rfl) rfl rfl (by first | exact True.intro | omega | exact sd) ?_ | refine AWg_store hT rfl rfl rfl (by first | exact List.mem_cons_self | exact sm) rfl ?_ | refine AWd_nil ?_)
          repeat (first | refine AWd_step hT rfl rfl rfl (by first | exact True.intro | omega | exact sd) ?_ | refine AWk_step hT rfl rfl (by first | exact True.intro | omega | exact sd) ?_ | refine AWk_step0 hT rfl (by first | exact True.intro | omega | exact sd) ?_ | refine AWd_nil ?_ | refine AWk_nil ?_ | refine AWd_gstep hT rfl rfl rfl rfl rfl (by intro hg; first | exact ⟨True.intro, True.intro⟩ | exact sg hg) ?_ | refine AWk_gstep hT rfl rfl rfl rfl (by intro hg; first | exact ⟨True.intro, True.intro⟩ | exact sg hg) ?_ | refine AW_seq ?_ | refine AW_region ?_ | refine AW_draw mixed (by kernel_rfl) ?_ | refine AW_block ?_ | refine AW_skip ?_ | refine AW_exit ?_ | refine AW_ret ?_)
          exact ret_exact (r := .tup [polAV [], .d (.int .i64 bad), .d (.int .i64 71)]) rfl (AV.le.tup ⟨AV.le.agg ⟨AV.le.dat, trivial⟩, .refl _, .refl _, trivial⟩) rfl rfl rfl rfl ⟨rfl, rfl⟩
end Tdoc
