/- The reference's parser: names, and what is done at one word. -/
import Derived.Test.YtoaogfehdalmdaaGreatDoorK3
import Derived.Test.YtoaogfehdalmdaaGreatDoorK2
set_option linter.unusedVariables false
set_option linter.unusedSimpArgs false
namespace Tdoc
open Go Go.Proofs

abbrev Wd := List UInt8 × Nat
def encWs (l : List Wd) : List (List Dat) := l.map fun w => [.str w.1, .int .i64 w.2]
theorem encWs_length (l : List Wd) : (encWs l).length = l.length := by simp [encWs]

/-- The reference parser's state: where it is, where the text ends, and where the first wrong word is. -/
structure RS where
  i : Nat
  en : Int
  bad : Int

def rsr (ws : List Wd) : RS → List AV
  | ⟨i, en, bad⟩ => [.d (.sl 2 (encWs ws)), .d (.int .i64 i), .d (.int .i64 en), .d (.int .i64 bad)]

theorem low_rsr (k : Nat) (ws : List Wd) (s : RS) : lowL k (rsr ws s) = true := by cases s; rfl
theorem lowH_rsr (k : Nat) (ws : List Wd) (s : RS) : lowH k [.row (rsr ws s)] = true := by cases s; rfl

set_option maxRecDepth 100000 in
theorem find_spec (x : List UInt8) (l : List (List UInt8)) (s : List UInt8) (hl : l.length ≤ 1000000) :
    Spec Tryz.prog 53 [.d (.sl 1 (strsAV (x :: l))), .d (.str s)] [] (fun r h' => r = .d (.int .i64 (sIdx l s + 1)) ∧ h' = []) := by
  refine Spec_of_body hT Tryz.func53 rfl rfl rfl rfl ?_
  intro E hE
  have hlen : (strsAV (x :: l)).length = l.length + 1 := by simp [strsAV]
  repeat (first | refine wk hT rfl rfl ?_ | refine wd hT rfl rfl rfl ?_ | refine wz hT rfl ?_ | refine AWd_nil ?_ | refine AWk_nil ?_ | refine wh hT rfl rfl rfl rfl ?_ | refine wg hT rfl rfl rfl rfl rfl ?_ | refine AW_seq ?_ | refine AW_region ?_ | refine wx mixed ?_ | refine AW_block ?_ | refine AW_skip ?_ | refine AW_exit ?_ | refine AW_ret ?_)
  refine AW_loopL (ι := Nat) (fun k => [(0, .d (.sl 1 (strsAV (x :: l)))), (1, .d (.str s)), (5, .d (.int .i64 ((k + 1 : Nat) : Int)))]) (fun _ => []) (fun k => k ≤ l.length ∧ ∀ j, (hj : j < k) → (hj2 : j < l.length) → l[j] ≠ s) (fun k => l.length - k) 0
    ⟨by omega, fun j hj => by omega⟩ ⟨.refl _, .refl _, .refl _, trivial⟩ (HLe.refl _) ?_
  intro k ⟨hk, hb⟩
  repeat (first | refine wk hT rfl rfl ?_ | refine wd hT rfl rfl rfl ?_ | refine wz hT rfl ?_ | refine AWd_nil ?_ | refine AWk_nil ?_ | refine wh hT rfl rfl rfl rfl ?_ | refine wg hT rfl rfl rfl rfl rfl ?_ | refine AW_seq ?_ | refine AW_region ?_ | refine wx mixed ?_ | refine AW_block ?_ | refine AW_skip ?_ | refine AW_exit ?_ | refine AW_ret ?_)
  refine AW_condL rfl (fun h1 => ?_) (fun h1 => ?_)
  · have hlt : k < l.length := by rw [hlen] at h1; simpa using h1
    have hel : (strsAV (x :: l))[(((k + 1 : Nat) : Int)).toNat]? = some [.str l[k]] := by simp [strsAV, hlt]
    repeat (first | refine wk hT rfl rfl ?_ | refine wd hT rfl rfl rfl ?_ | refine wz hT rfl ?_ | refine AWd_nil ?_ | refine AWk_nil ?_ | refine wh hT rfl rfl rfl rfl ?_ | refine wg hT rfl rfl rfl rfl rfl ?_ | refine AW_seq ?_ | refine AW_region ?_ | refine wx mixed ?_ | refine AW_block ?_ | refine AW_skip ?_ | refine AW_exit ?_ | refine AW_ret ?_)
    refine AWk_op (OpS_of_pure (indexAddr_ok hT rfl rfl rfl rfl (by omega) hel)) rfl ?_
    repeat (first | refine wk hT rfl rfl ?_ | refine wd hT rfl rfl rfl ?_ | refine wz hT rfl ?_ | refine AWd_nil ?_ | refine AWk_nil ?_ | refine wh hT rfl rfl rfl rfl ?_ | refine wg hT rfl rfl rfl rfl rfl ?_ | refine AW_seq ?_ | refine AW_region ?_ | refine wx mixed ?_ | refine AW_block ?_ | refine AW_skip ?_ | refine AW_exit ?_ | refine AW_ret ?_)
    refine AW_condL rfl (fun h2 => ?_) (fun h2 => ?_)
    · have h2' : l[k] = s := by simpa using h2
      repeat (first | refine wk hT rfl rfl ?_ | refine wd hT rfl rfl rfl ?_ | refine wz hT rfl ?_ | refine AWd_nil ?_ | refine AWk_nil ?_ | refine wh hT rfl rfl rfl rfl ?_ | refine wg hT rfl rfl rfl rfl rfl ?_ | refine AW_seq ?_ | refine AW_region ?_ | refine wx mixed ?_ | refine AW_block ?_ | refine AW_skip ?_ | refine AW_exit ?_ | refine AW_ret ?_)
      refine ret_exact rfl (.refl _) rfl rfl rfl rfl ⟨?_, rfl⟩
      show AV.d (.int .i64 ((k + 1 : Nat) : Int)) = _
      rw [sIdx_at hlt h2' (fun j hj => hb j hj (by omega))]; simp
    · have h2' : ¬ l[k] = s := by simpa using h2
      repeat (first | refine wk hT rfl rfl ?_ | refine wd hT rfl rfl rfl ?_ | refine wz hT rfl ?_ | refine AWd_nil ?_ | refine AWk_nil ?_ | refine wh hT rfl rfl rfl rfl ?_ | refine wg hT rfl rfl rfl rfl rfl ?_ | refine AW_seq ?_ | refine AW_region ?_ | refine wx mixed ?_ | refine AW_block ?_ | refine AW_skip ?_ | refine AW_exit ?_ | refine AW_ret ?_)
      refine ⟨k + 1, ⟨by omega, fun j hj hj2 => ?_⟩, by omega, ⟨.refl _, .refl _, AV.le.eq ?_, trivial⟩, HLe.refl _⟩
      · by_cases hjk : j = k
        · subst hjk; exact h2'
        · exact hb j (by omega) hj2
      · show AV.d (.int .i64 (IntKind.i64.wrap (((k + 1 : Nat) : Int) + 1))) = _
        rw [wrap_id (by omega)]; rfl
  · have hge : k = l.length := by rw [hlen] at h1; simp at h1; omega
    repeat (first | refine wk hT rfl rfl ?_ | refine wd hT rfl rfl rfl ?_ | refine wz hT rfl ?_ | refine AWd_nil ?_ | refine AWk_nil ?_ | refine wh hT rfl rfl rfl rfl ?_ | refine wg hT rfl rfl rfl rfl rfl ?_ | refine AW_seq ?_ | refine AW_region ?_ | refine wx mixed ?_ | refine AW_block ?_ | refine AW_skip ?_ | refine AW_exit ?_ | refine AW_ret ?_)
    refine ret_exact rfl (.refl _) rfl rfl rfl rfl ⟨?_, rfl⟩
    show AV.d (.int .i64 0) = _
    rw [sIdx_none (fun j hj => hb j (by omega) hj)]; rfl

theorem checks_spec : Spec Tryz.prog 71 [] [] (fun r h' => r = .d (.sl 1 (strsAV ([] :: chk))) ∧ h' = []) := by
  refine Spec_of_body hT Tryz.func71 rfl rfl rfl rfl ?_
  intro E hE
  repeat (first | refine wk hT rfl rfl ?_ | refine wd hT rfl rfl rfl ?_ | refine wz hT rfl ?_ | refine AWd_nil ?_ | refine AWk_nil ?_ | refine wh hT rfl rfl rfl rfl ?_ | refine wg hT rfl rfl rfl rfl rfl ?_ | refine AW_seq ?_ | refine AW_region ?_ | refine wx mixed ?_ | refine AW_block ?_ | refine AW_skip ?_ | refine AW_exit ?_ | refine AW_ret ?_)
  exact ret_exact rfl AV.le.dat rfl rfl rfl rfl ⟨rfl, rfl⟩
theorem values_spec : Spec Tryz.prog 72 [] [] (fun r h' => r = .d (.sl 1 (strsAV ([] :: vls))) ∧ h' = []) := by
  refine Spec_of_body hT Tryz.func72 rfl rfl rfl rfl ?_
  intro E hE
  repeat (first | refine wk hT rfl rfl ?_ | refine wd hT rfl rfl rfl ?_ | refine wz hT rfl ?_ | refine AWd_nil ?_ | refine AWk_nil ?_ | refine wh hT rfl rfl rfl rfl ?_ | refine wg hT rfl rfl rfl rfl rfl ?_ | refine AW_seq ?_ | refine AW_region ?_ | refine wx mixed ?_ | refine AW_block ?_ | refine AW_skip ?_ | refine AW_exit ?_ | refine AW_ret ?_)
  exact ret_exact rfl AV.le.dat rfl rfl rfl rfl ⟨rfl, rfl⟩
theorem verdicts_spec : Spec Tryz.prog 54 [] [] (fun r h' => r = .d (.sl 1 (strsAV ([] :: vds))) ∧ h' = []) := by
  refine Spec_of_body hT Tryz.func54 rfl rfl rfl rfl ?_
  intro E hE
  repeat (first | refine wk hT rfl rfl ?_ | refine wd hT rfl rfl rfl ?_ | refine wz hT rfl ?_ | refine AWd_nil ?_ | refine AWk_nil ?_ | refine wh hT rfl rfl rfl rfl ?_ | refine wg hT rfl rfl rfl rfl rfl ?_ | refine AW_seq ?_ | refine AW_region ?_ | refine wx mixed ?_ | refine AW_block ?_ | refine AW_skip ?_ | refine AW_exit ?_ | refine AW_ret ?_)
  exact ret_exact rfl AV.le.dat rfl rfl rfl rfl ⟨rfl, rfl⟩

def peekR (ws : List Wd) (s : RS) : List UInt8 := match ws[s.i]? with
  | some w => w.1
  | none => []
def failR (ws : List Wd) (s : RS) : RS := if s.bad < 0 then { s with bad := match ws[s.i]? with
  | some w => w.2
  | none => s.en } else s
def takeR (ws : List Wd) (s : RS) (w : List UInt8) : RS := if s.bad < 0 ∧ peekR ws s ≠ w then { failR ws s with i := s.i + 1 } else { s with i := s.i + 1 }

set_option maxRecDepth 100000 in
theorem peek_spec (ws : List Wd) (s : RS) :
    Spec Tryz.prog 55 [.ptr 0 0] [.row (rsr ws s)] (fun r h' => r = .d (.str (peekR ws s)) ∧ h' = [.row (rsr ws s)]) := by
  have hlen := encWs_length ws
  obtain ⟨i, en, bad⟩ := s
  refine Spec_of_body hT Tryz.func55 rfl rfl rfl rfl ?_
  intro E hE
  unfold peekR
  repeat (first | refine wk hT rfl rfl ?_ | refine wd hT rfl rfl rfl ?_ | refine wz hT rfl ?_ | refine AWd_nil ?_ | refine AWk_nil ?_ | refine wh hT rfl rfl rfl rfl ?_ | refine wg hT rfl rfl rfl rfl rfl ?_ | refine AW_seq ?_ | refine AW_region ?_ | refine wx mixed ?_ | refine AW_block ?_ | refine AW_skip ?_ | refine AW_exit ?_ | refine AW_ret ?_)
  refine AW_condL rfl (fun h1 => ?_) (fun h1 => ?_)
  · have h1' : ws.length ≤ i := by rw [hlen] at h1; simpa using h1
    rw [List.getElem?_eq_none h1']
    repeat (first | refine wk hT rfl rfl ?_ | refine wd hT rfl rfl rfl ?_ | refine wz hT rfl ?_ | refine AWd_nil ?_ | refine AWk_nil ?_ | refine wh hT rfl rfl rfl rfl ?_ | refine wg hT rfl rfl rfl rfl rfl ?_ | refine AW_seq ?_ | refine AW_region ?_ | refine wx mixed ?_ | refine AW_block ?_ | refine AW_skip ?_ | refine AW_exit ?_ | refine AW_ret ?_)
    exact ret_exact rfl (.refl _) rfl rfl rfl rfl ⟨rfl, rfl⟩
  · have h1' : i < ws.length := by rw [hlen] at h1; simpa using h1
    have hel : (encWs ws)[((i : Int)).toNat]? = some [.str ws[i].1, .int .i64 ws[i].2] := by simp [encWs, h1']
    rw [List.getElem?_eq_getElem h1']
    repeat (first | refine AW_exit ?_ | refine AW_skip ?_)
    refine AW_seq ?_
    refine AW_drawG (fun i => bif Nat.beq i 3 || Nat.beq i 7 || Nat.beq i 10 then [0] else []) (fun i => []) mixed (by kernel_rfl) ?_
    repeat (first | refine AWg_load hT rfl rfl rfl rfl (by first | exact List.mem_cons_self | exact sm) rfl ?_ | refine AWg_pure hT (fun _ => rfl) rfl rfl (by first | exact True.intro | omega | exact sd) ?_ | refine AWg_store hT rfl rfl rfl (by first | exact List.mem_cons_self | exact sm) rfl ?_ | refine AWd_nil ?_)
    refine AWg_op (os := []) (fun k hk1 hk2 => OpS_of_pure (indexAddr_ok hT rfl rfl rfl rfl (by omega) hel)) rfl ?_
    repeat (first | refine AWg_load hT rfl rfl rfl rfl (by first | exact List.mem_cons_self | exact sm) rfl ?_ | refine AWg_pure hT (fun _ => rfl) rfl rfl (by first | exact True.intro | omega | exact sd) ?_ | refine AWg_store hT rfl rfl rfl (by first | exact List.mem_cons_self | exact sm) rfl ?_ | refine AWd_nil ?_)
    repeat (first | refine wk hT rfl rfl ?_ | refine wd hT rfl rfl rfl ?_ | refine wz hT rfl ?_ | refine AWd_nil ?_ | refine AWk_nil ?_ | refine wh hT rfl rfl rfl rfl ?_ | refine wg hT rfl rfl rfl rfl rfl ?_ | refine AW_seq ?_ | refine AW_region ?_ | refine wx mixed ?_ | refine AW_block ?_ | refine AW_skip ?_ | refine AW_exit ?_ | refine AW_ret ?_)
    exact ret_exact rfl (.refl _) rfl rfl rfl rfl ⟨rfl, rfl⟩

set_option maxRecDepth 100000 in
theorem fail_spec (ws : List Wd) (s : RS) :
    Spec Tryz.prog 56 [.ptr 0 0] [.row (rsr ws s)] (fun r h' => r = .tup [] ∧ h' = [.row (rsr ws (failR ws s))]) := by
  have hlen := encWs_length ws
  obtain ⟨i, en, bad⟩ := s
  refine Spec_of_body hT Tryz.func56 rfl rfl (rs := []) rfl rfl ?_
  intro E hE
  unfold failR
  repeat (first | refine wk hT rfl rfl ?_ | refine wd hT rfl rfl rfl ?_ | refine wz hT rfl ?_ | refine AWd_nil ?_ | refine AWk_nil ?_ | refine wh hT rfl rfl rfl rfl ?_ | refine wg hT rfl rfl rfl rfl rfl ?_ | refine AW_seq ?_ | refine AW_region ?_ | refine wx mixed ?_ | refine AW_block ?_ | refine AW_skip ?_ | refine AW_exit ?_ | refine AW_ret ?_)
  refine AW_condL rfl (fun h1 => ?_) (fun h1 => ?_)
  · have h1' : bad < 0 := by simpa using h1
    rw [if_pos h1']
    repeat (first | refine wk hT rfl rfl ?_ | refine wd hT rfl rfl rfl ?_ | refine wz hT rfl ?_ | refine AWd_nil ?_ | refine AWk_nil ?_ | refine wh hT rfl rfl rfl rfl ?_ | refine wg hT rfl rfl rfl rfl rfl ?_ | refine AW_seq ?_ | refine AW_region ?_ | refine wx mixed ?_ | refine AW_block ?_ | refine AW_skip ?_ | refine AW_exit ?_ | refine AW_ret ?_)
    refine AW_condL rfl (fun h2 => ?_) (fun h2 => ?_)
    · have h2' : i < ws.length := by rw [hlen] at h2; simpa using h2
      have hel : (encWs ws)[((i : Int)).toNat]? = some [.str ws[i].1, .int .i64 ws[i].2] := by simp [encWs, h2']
      rw [List.getElem?_eq_getElem h2']
      refine AW_drawG (fun i => bif Nat.beq i 4 || Nat.beq i 8 || Nat.beq i 14 then [0] else []) (fun i => bif Nat.beq i 14 then [0] else []) mixed (by kernel_rfl) ?_
      repeat (first | refine AWg_load hT rfl rfl rfl rfl (by first | exact List.mem_cons_self | exact sm) rfl ?_ | refine AWg_pure hT (fun _ => rfl) rfl rfl (by first | exact True.intro | omega | exact sd) ?_ | refine AWg_store hT rfl rfl rfl (by first | exact List.mem_cons_self | exact sm) rfl ?_ | refine AWd_nil ?_)
      refine AWg_op (os := []) (fun k hk1 hk2 => OpS_of_pure (indexAddr_ok hT rfl rfl rfl rfl (by omega) hel)) rfl ?_
      repeat (first | refine AWg_load hT rfl rfl rfl rfl (by first | exact List.mem_cons_self | exact sm) rfl ?_ | refine AWg_pure hT (fun _ => rfl) rfl rfl (by first | exact True.intro | omega | exact sd) ?_ | refine AWg_store hT rfl rfl rfl (by first | exact List.mem_cons_self | exact sm) rfl ?_ | refine AWd_nil ?_)
      exact ret_exactN rfl (.refl _) rfl rfl rfl rfl ⟨rfl, rfl⟩
    · have h2' : ws.length ≤ i := by rw [hlen] at h2; simpa using h2
      rw [List.getElem?_eq_none h2']
      repeat (first | refine wk hT rfl rfl ?_ | refine wd hT rfl rfl rfl ?_ | refine wz hT rfl ?_ | refine AWd_nil ?_ | refine AWk_nil ?_ | refine wh hT rfl rfl rfl rfl ?_ | refine wg hT rfl rfl rfl rfl rfl ?_ | refine AW_seq ?_ | refine AW_region ?_ | refine wx mixed ?_ | refine AW_block ?_ | refine AW_skip ?_ | refine AW_exit ?_ | refine AW_ret ?_)
      exact ret_exactN rfl (.refl _) rfl rfl rfl rfl ⟨rfl, rfl⟩
  · have h1' : ¬ bad < 0 := by simpa using h1
    rw [if_neg h1']
    repeat (first | refine wk hT rfl rfl ?_ | refine wd hT rfl rfl rfl ?_ | refine wz hT rfl ?_ | refine AWd_nil ?_ | refine AWk_nil ?_ | refine wh hT rfl rfl rfl rfl ?_ | refine wg hT rfl rfl rfl rfl rfl ?_ | refine AW_seq ?_ | refine AW_region ?_ | refine wx mixed ?_ | refine AW_block ?_ | refine AW_skip ?_ | refine AW_exit ?_ | refine AW_ret ?_)
    exact ret_exactN rfl (.refl _) rfl rfl rfl rfl ⟨rfl, rfl⟩

set_option maxRecDepth 100000 in
theorem take_spec (ws : List Wd) (s : RS) (w : List UInt8) (hi : s.i ≤ 100000000) :
    Spec Tryz.prog 58 [.ptr 0 0, .d (.str w)] [.row (rsr ws s)] (fun r h' => r = .tup [] ∧ h' = [.row (rsr ws (takeR ws s w))]) := by
  have hpeek := peek_spec ws s
  have hfail := fail_spec ws s
  have hfi : (failR ws s).i = s.i := by unfold failR; split <;> rfl
  unfold takeR
  generalize peekR ws s = pk at hpeek ⊢
  generalize failR ws s = f at hfail hfi ⊢
  obtain ⟨i, en, bad⟩ := s
  obtain ⟨fi, fen, fbad⟩ := f
  simp only at hfi hi
  subst hfi
  have hwr : IntKind.i64.wrap ((fi : Int) + 1) = ((fi + 1 : Nat) : Int) := by rw [wrap_id (by omega)]; simp
  refine Spec_of_body hT Tryz.func58 rfl rfl rfl rfl ?_
  intro E hE
  repeat (first | refine wk hT rfl rfl ?_ | refine wd hT rfl rfl rfl ?_ | refine wz hT rfl ?_ | refine AWd_nil ?_ | refine AWk_nil ?_ | refine wh hT rfl rfl rfl rfl ?_ | refine wg hT rfl rfl rfl rfl rfl ?_ | refine AW_seq ?_ | refine AW_region ?_ | refine wx mixed ?_ | refine AW_block ?_ | refine AW_skip ?_ | refine AW_exit ?_ | refine AW_ret ?_)
  refine AWk_gop rfl rfl rfl (fun hg => ⟨by first | exact True.intro | exact ⟨hg, True.intro⟩, callS1 rfl rfl hpeek [0] (by decide) rfl rfl rfl rfl rfl rfl rfl⟩) ?_
  repeat (first | refine wk hT rfl rfl ?_ | refine wd hT rfl rfl rfl ?_ | refine wz hT rfl ?_ | refine AWd_nil ?_ | refine AWk_nil ?_ | refine wh hT rfl rfl rfl rfl ?_ | refine wg hT rfl rfl rfl rfl rfl ?_ | refine AW_seq ?_ | refine AW_region ?_ | refine wx mixed ?_ | refine AW_block ?_ | refine AW_skip ?_ | refine AW_exit ?_ | refine AW_ret ?_)
  refine AW_condL rfl (fun h1 => ?_) (fun h1 => ?_)
  · have h1' : bad < 0 ∧ pk ≠ w := by simpa using h1
    rw [if_pos h1']
    repeat (first | refine wk hT rfl rfl ?_ | refine wd hT rfl rfl rfl ?_ | refine wz hT rfl ?_ | refine AWd_nil ?_ | refine AWk_nil ?_ | refine wh hT rfl rfl rfl rfl ?_ | refine wg hT rfl rfl rfl rfl rfl ?_ | refine AW_seq ?_ | refine AW_region ?_ | refine wx mixed ?_ | refine AW_block ?_ | refine AW_skip ?_ | refine AW_exit ?_ | refine AW_ret ?_)
    refine AWk_op (callS1 rfl rfl hfail [0] (by decide) rfl rfl rfl rfl (lowH_rsr 0 _ _) rfl rfl) rfl ?_
    repeat (first | refine wk hT rfl rfl ?_ | refine wd hT rfl rfl rfl ?_ | refine wz hT rfl ?_ | refine AWd_nil ?_ | refine AWk_nil ?_ | refine wh hT rfl rfl rfl rfl ?_ | refine wg hT rfl rfl rfl rfl rfl ?_ | refine AW_seq ?_ | refine AW_region ?_ | refine wx mixed ?_ | refine AW_block ?_ | refine AW_skip ?_ | refine AW_exit ?_ | refine AW_ret ?_)
    refine ret_exactN rfl (.refl _) rfl rfl rfl rfl ⟨rfl, ?_⟩
    show [AObj.row [_, .d (.int .i64 (IntKind.i64.wrap ((fi : Int) + 1))), _, _]] = _
    rw [hwr]; rfl
  · have h1' : ¬ (bad < 0 ∧ pk ≠ w) := by simpa using h1
    rw [if_neg h1']
    repeat (first | refine wk hT rfl rfl ?_ | refine wd hT rfl rfl rfl ?_ | refine wz hT rfl ?_ | refine AWd_nil ?_ | refine AWk_nil ?_ | refine wh hT rfl rfl rfl rfl ?_ | refine wg hT rfl rfl rfl rfl rfl ?_ | refine AW_seq ?_ | refine AW_region ?_ | refine wx mixed ?_ | refine AW_block ?_ | refine AW_skip ?_ | refine AW_exit ?_ | refine AW_ret ?_)
    refine ret_exactN rfl (.refl _) rfl rfl rfl rfl ⟨rfl, ?_⟩
    show [AObj.row [_, .d (.int .i64 (IntKind.i64.wrap ((fi : Int) + 1))), _, _]] = _
    rw [hwr]; rfl
end Tdoc
/- The reference's parser: the words of a text. -/
set_option linter.unusedVariables false
set_option linter.unusedSimpArgs false
namespace Tdoc
open Go Go.Proofs

/-- How many bytes a comment goes on. -/
def cmt : List UInt8 → Nat
  | [] => 0
  | c :: r => if c = 10 then 0 else cmt r + 1

theorem cmt_le : ∀ (l : List UInt8), cmt l ≤ l.length
  | [] => by simp [cmt]
  | c :: r => by have := cmt_le r; simp only [cmt, List.length_cons]; split <;> omega

def wordsR (text : List UInt8) : Nat → Nat → List Wd → List Wd × Int
  | 0, i, out => (out, -1)
  | m + 1, i, out => match text.drop i with
    | [] => (out, -1)
    | c :: r => if c = 32 ∨ c = 10 then wordsR text m (i + 1) out
      else if c = 35 then wordsR text m (i + cmt (c :: r)) out
      else if (c = 40 ∨ c = 41) ∨ c = 59 then wordsR text m (i + 1) (out ++ [([c], i)])
      else if isLow c = true then wordsR text m (i + lets (c :: r)) (out ++ [((c :: r).take (lets (c :: r)), i)])
      else (out, i)

theorem byteI {c d : UInt8} {k : Int} (hd : (d.toNat : Int) = k) : (c.toNat : Int) = k ↔ c = d :=
  ⟨fun h => UInt8.toNat_inj.1 (Int.ofNat_inj.1 (h.trans hd.symm)), fun h => by rw [h]; exact hd⟩

set_option maxHeartbeats 4000000 in
set_option maxRecDepth 100000 in
theorem words_spec (text : List UInt8) (hl : text.length ≤ 1000000) :
    Spec Tryz.prog 52 [.d (.str text)] [] (fun r h' => r = .tup [.d (.sl 2 (encWs (wordsR text (text.length + 1) 0 []).1)), .d (.int .i64 (wordsR text (text.length + 1) 0 []).2)] ∧ h' = []) := by
  refine Spec_of_body hT Tryz.func52 rfl rfl rfl rfl ?_
  intro E hE
  generalize hq : wordsR text (text.length + 1) 0 [] = q
  repeat (first | refine wk hT rfl rfl ?_ | refine wd hT rfl rfl rfl ?_ | refine wz hT rfl ?_ | refine AWd_nil ?_ | refine AWk_nil ?_ | refine wh hT rfl rfl rfl rfl ?_ | refine wg hT rfl rfl rfl rfl rfl ?_ | refine AW_seq ?_ | refine AW_region ?_ | refine wx mixed ?_ | refine AW_block ?_ | refine AW_skip ?_ | refine AW_exit ?_ | refine AW_ret ?_)
  refine AW_room (AW_acquireAt 4 2 0 (es := []) (.inr ⟨rfl, rfl⟩) rfl ?_)
  refine AW_loopL (ι := Nat × List Wd) (fun x => [(0, .d (.str text)), (4, .sl 2 (encWs x.2) (.right 0)), (5, .d (.int .i64 x.1))]) (fun x => [.right 2 (encWs x.2).length])
    (fun x => x.1 ≤ text.length ∧ x.2.length ≤ x.1 ∧ ∃ m, text.length - x.1 < m ∧ wordsR text m x.1 x.2 = q) (fun x => text.length - x.1) (0, []) ⟨by simp, by simp, text.length + 1, by simp, hq⟩
    ⟨.refl _, .refl _, .refl _, trivial⟩ (HLe.refl _) ?_
  rintro ⟨i, out⟩ ⟨hi, ho, m, hm, hw⟩
  simp only at hi ho hm hw ⊢
  obtain ⟨m, rfl⟩ : ∃ m', m = m' + 1 := ⟨m - 1, by omega⟩
  rw [wordsR] at hw
  repeat (first | refine wk hT rfl rfl ?_ | refine wd hT rfl rfl rfl ?_ | refine wz hT rfl ?_ | refine AWd_nil ?_ | refine AWk_nil ?_ | refine wh hT rfl rfl rfl rfl ?_ | refine wg hT rfl rfl rfl rfl rfl ?_ | refine AW_seq ?_ | refine AW_region ?_ | refine wx mixed ?_ | refine AW_block ?_ | refine AW_skip ?_ | refine AW_exit ?_ | refine AW_ret ?_)
  refine AW_condL rfl (fun h1 => ?_) (fun h1 => ?_)
  · have hlt : i < text.length := by simpa using h1
    have hd : text.drop i = text[i] :: text.drop (i + 1) := by simp
    have hat := strAt_get hlt
    have hwr : IntKind.i64.wrap ((i : Int) + 1) = ((i + 1 : Nat) : Int) := by rw [wrap_id (by omega)]; simp
    rw [hd] at hw
    simp only at hw
    repeat (first | refine wk hT rfl rfl ?_ | refine wd hT rfl rfl rfl ?_ | refine wz hT rfl ?_ | refine AWd_nil ?_ | refine AWk_nil ?_ | refine wh hT rfl rfl rfl rfl ?_ | refine wg hT rfl rfl rfl rfl rfl ?_ | refine AW_seq ?_ | refine AW_region ?_ | refine wx mixed ?_ | refine AW_block ?_ | refine AW_skip ?_ | refine AW_exit ?_ | refine AW_ret ?_)
    refine AW_condL rfl (fun h2 => ?_) (fun h2 => ?_)
    · have hc : text[i] = 32 ∨ text[i] = 10 := by
        rw [hat] at h2; simp at h2; exact h2.imp (byteI rfl).1 (byteI rfl).1
      rw [if_pos hc] at hw
      repeat (first | refine wk hT rfl rfl ?_ | refine wd hT rfl rfl rfl ?_ | refine wz hT rfl ?_ | refine AWd_nil ?_ | refine AWk_nil ?_ | refine wh hT rfl rfl rfl rfl ?_ | refine wg hT rfl rfl rfl rfl rfl ?_ | refine AW_seq ?_ | refine AW_region ?_ | refine wx mixed ?_ | refine AW_block ?_ | refine AW_skip ?_ | refine AW_exit ?_ | refine AW_ret ?_)
      exact ⟨(i + 1, out), ⟨by simp only; omega, by simp only; omega, m, by simp only; omega, hw⟩, by simp only; omega, ⟨.refl _, .refl _, AV.le.eq (by show AV.d (.int .i64 (IntKind.i64.wrap ((i : Int) + 1))) = _; rw [hwr]), trivial⟩, HLe.refl _⟩
    · have hc : ¬ (text[i] = 32 ∨ text[i] = 10) := by
        rintro (hc | hc) <;> rw [hat, hc] at h2 <;> simp at h2
      rw [if_neg hc] at hw
      repeat (first | refine wk hT rfl rfl ?_ | refine wd hT rfl rfl rfl ?_ | refine wz hT rfl ?_ | refine AWd_nil ?_ | refine AWk_nil ?_ | refine wh hT rfl rfl rfl rfl ?_ | refine wg hT rfl rfl rfl rfl rfl ?_ | refine AW_seq ?_ | refine AW_region ?_ | refine wx mixed ?_ | refine AW_block ?_ | refine AW_skip ?_ | refine AW_exit ?_ | refine AW_ret ?_)
      refine AW_condL rfl (fun h3 => ?_) (fun h3 => ?_)
      · have hc3 : text[i] = 35 := by
          rw [hat] at h3; simp at h3; exact (byteI rfl).1 h3
        rw [if_pos hc3] at hw
        repeat (first | refine wk hT rfl rfl ?_ | refine wd hT rfl rfl rfl ?_ | refine wz hT rfl ?_ | refine AWd_nil ?_ | refine AWk_nil ?_ | refine wh hT rfl rfl rfl rfl ?_ | refine wg hT rfl rfl rfl rfl rfl ?_ | refine AW_seq ?_ | refine AW_region ?_ | refine wx mixed ?_ | refine AW_block ?_ | refine AW_skip ?_ | refine AW_exit ?_ | refine AW_ret ?_)
        refine AW_loopL (ι := Nat) (fun e => [(0, .d (.str text)), (4, .sl 2 (encWs out) (.right 0)), (5, .d (.int .i64 e))]) (fun _ => [.right 2 (encWs out).length])
          (fun e => i ≤ e ∧ e ≤ text.length ∧ e + cmt (text.drop e) = i + cmt (text.drop i)) (fun e => text.length - e) i ⟨by omega, by omega, rfl⟩
          ⟨.refl _, .refl _, .refl _, trivial⟩ (HLe.refl _) ?_
        intro e ⟨he1, he2, he3⟩
        repeat (first | refine wk hT rfl rfl ?_ | refine wd hT rfl rfl rfl ?_ | refine wz hT rfl ?_ | refine AWd_nil ?_ | refine AWk_nil ?_ | refine wh hT rfl rfl rfl rfl ?_ | refine wg hT rfl rfl rfl rfl rfl ?_ | refine AW_seq ?_ | refine AW_region ?_ | refine wx mixed ?_ | refine AW_block ?_ | refine AW_skip ?_ | refine AW_exit ?_ | refine AW_ret ?_)
        refine AW_condL rfl (fun h5 => ?_) (fun h5 => ?_)
        · have h5' : e < text.length ∧ ¬ strAt text e = 10 := by simpa using h5
          have hlt2 := h5'.1
          have hne : ¬ text[e] = 10 := by
            intro hc; apply h5'.2; rw [strAt_get hlt2, hc]; rfl
          have hd2 : text.drop e = text[e] :: text.drop (e + 1) := by simp
          have hwr2 : IntKind.i64.wrap ((e : Int) + 1) = ((e + 1 : Nat) : Int) := by rw [wrap_id (by omega)]; simp
          rw [hd2, cmt, if_neg hne] at he3
          repeat (first | refine wk hT rfl rfl ?_ | refine wd hT rfl rfl rfl ?_ | refine wz hT rfl ?_ | refine AWd_nil ?_ | refine AWk_nil ?_ | refine wh hT rfl rfl rfl rfl ?_ | refine wg hT rfl rfl rfl rfl rfl ?_ | refine AW_seq ?_ | refine AW_region ?_ | refine wx mixed ?_ | refine AW_block ?_ | refine AW_skip ?_ | refine AW_exit ?_ | refine AW_ret ?_)
          exact ⟨e + 1, ⟨by omega, by omega, by omega⟩, by omega, ⟨.refl _, .refl _, AV.le.eq (by show AV.d (.int .i64 (IntKind.i64.wrap ((e : Int) + 1))) = _; rw [hwr2]), trivial⟩, HLe.refl _⟩
        · have h5' : e < text.length → strAt text e = 10 := by
            intro hlt2; simpa [hlt2] using h5
          have hz : cmt (text.drop e) = 0 := by
            by_cases hlt2 : e < text.length
            · have h6 := h5' hlt2
              have hc10 : text[e] = 10 := by rw [strAt_get hlt2] at h6; exact (byteI rfl).1 h6
              have hd2 : text.drop e = text[e] :: text.drop (e + 1) := by simp
              rw [hd2, cmt, if_pos hc10]
            · rw [List.drop_eq_nil_of_le (by omega)]; rfl
          rw [← hd] at hw
          have he : e = i + cmt (text.drop i) := by omega
          have hpos : 0 < cmt (text.drop i) := by rw [hd, cmt, if_neg (by rw [hc3]; decide)]; omega
          repeat (first | refine wk hT rfl rfl ?_ | refine wd hT rfl rfl rfl ?_ | refine wz hT rfl ?_ | refine AWd_nil ?_ | refine AWk_nil ?_ | refine wh hT rfl rfl rfl rfl ?_ | refine wg hT rfl rfl rfl rfl rfl ?_ | refine AW_seq ?_ | refine AW_region ?_ | refine wx mixed ?_ | refine AW_block ?_ | refine AW_skip ?_ | refine AW_exit ?_ | refine AW_ret ?_)
          subst he
          exact ⟨(i + cmt (text.drop i), out), ⟨by simp only; omega, by simp only; omega, m, by simp only; omega, hw⟩, by simp only; omega, ⟨.refl _, .refl _, .refl _, trivial⟩, HLe.refl _⟩
      · have hc3 : ¬ text[i] = 35 := by
          intro hc; rw [hat, hc] at h3; simp at h3
        rw [if_neg hc3] at hw
        repeat (first | refine wk hT rfl rfl ?_ | refine wd hT rfl rfl rfl ?_ | refine wz hT rfl ?_ | refine AWd_nil ?_ | refine AWk_nil ?_ | refine wh hT rfl rfl rfl rfl ?_ | refine wg hT rfl rfl rfl rfl rfl ?_ | refine AW_seq ?_ | refine AW_region ?_ | refine wx mixed ?_ | refine AW_block ?_ | refine AW_skip ?_ | refine AW_exit ?_ | refine AW_ret ?_)
        refine AW_condL rfl (fun h4 => ?_) (fun h4 => ?_)
        · have hc4 : (text[i] = 40 ∨ text[i] = 41) ∨ text[i] = 59 := by
            rw [hat] at h4; simp at h4; exact h4.imp (fun h => h.imp (byteI rfl).1 (byteI rfl).1) (byteI rfl).1
          rw [if_pos hc4] at hw
          have hcut : cutL text (i : Int) ((i + 1 : Nat) : Int) = [text[i]] := by
            show (text.drop i).take (i + 1 - i) = _
            rw [Nat.add_sub_cancel_left, hd]; rfl
          have hcut' : cutL text (i : Int) (IntKind.i64.wrap ((i : Int) + 1)) = [text[i]] := by rw [hwr, hcut]
          repeat (first | refine wk hT rfl rfl ?_ | refine wd hT rfl rfl rfl ?_ | refine wz hT rfl ?_ | refine AWd_nil ?_ | refine AWk_nil ?_ | refine wh hT rfl rfl rfl rfl ?_ | refine wg hT rfl rfl rfl rfl rfl ?_ | refine AW_seq ?_ | refine AW_region ?_ | refine wx mixed ?_ | refine AW_block ?_ | refine AW_skip ?_ | refine AW_exit ?_ | refine AW_ret ?_)
          refine AWk_op (append_right (i := 0) hT rfl rfl rfl rfl rfl rfl (by show ((encWs out).length + 1) * (24 + 1) ≤ 140737488355328; rw [encWs_length]; omega)) rfl ?_
          repeat (first | refine wk hT rfl rfl ?_ | refine wd hT rfl rfl rfl ?_ | refine wz hT rfl ?_ | refine AWd_nil ?_ | refine AWk_nil ?_ | refine wh hT rfl rfl rfl rfl ?_ | refine wg hT rfl rfl rfl rfl rfl ?_ | refine AW_seq ?_ | refine AW_region ?_ | refine wx mixed ?_ | refine AW_block ?_ | refine AW_skip ?_ | refine AW_exit ?_ | refine AW_ret ?_)
          refine ⟨(i + 1, out ++ [([text[i]], i)]), ⟨by simp only; omega, by simp only [List.length_append, List.length_cons, List.length_nil]; omega, m, by simp only; omega, hw⟩, by simp only; omega, ⟨.refl _, AV.le.eq ?_, AV.le.eq (by show AV.d (.int .i64 (IntKind.i64.wrap ((i : Int) + 1))) = _; rw [hwr]), trivial⟩, ?_⟩
          · show AV.sl 2 (encWs out ++ [[.str (cutL text (i : Int) (IntKind.i64.wrap ((i : Int) + 1))), .int .i64 i]]) (.right 0) = _
            rw [hcut']; simp [encWs]
          · exact ⟨⟨rfl, by simp [encWs]⟩, trivial⟩
        · have hc4 : ¬ ((text[i] = 40 ∨ text[i] = 41) ∨ text[i] = 59) := by
            rintro ((hc | hc) | hc) <;> rw [hat, hc] at h4 <;> simp at h4
          rw [if_neg hc4] at hw
          repeat (first | refine wk hT rfl rfl ?_ | refine wd hT rfl rfl rfl ?_ | refine wz hT rfl ?_ | refine AWd_nil ?_ | refine AWk_nil ?_ | refine wh hT rfl rfl rfl rfl ?_ | refine wg hT rfl rfl rfl rfl rfl ?_ | refine AW_seq ?_ | refine AW_region ?_ | refine wx mixed ?_ | refine AW_block ?_ | refine AW_skip ?_ | refine AW_exit ?_ | refine AW_ret ?_)
          refine AW_condL rfl (fun h6 => ?_) (fun h6 => ?_)
          · have hc6 : isLow text[i] = true := by
              rw [hat] at h6; simp at h6; simp [isLow]; omega
            rw [if_pos hc6] at hw
            repeat (first | refine wk hT rfl rfl ?_ | refine wd hT rfl rfl rfl ?_ | refine wz hT rfl ?_ | refine AWd_nil ?_ | refine AWk_nil ?_ | refine wh hT rfl rfl rfl rfl ?_ | refine wg hT rfl rfl rfl rfl rfl ?_ | refine AW_seq ?_ | refine AW_region ?_ | refine wx mixed ?_ | refine AW_block ?_ | refine AW_skip ?_ | refine AW_exit ?_ | refine AW_ret ?_)
            refine AW_loopL (ι := Nat) (fun e => [(0, .d (.str text)), (4, .sl 2 (encWs out) (.right 0)), (5, .d (.int .i64 i)), (7, .d (.int .i64 e))]) (fun _ => [.right 2 (encWs out).length])
              (fun e => i ≤ e ∧ e ≤ text.length ∧ e + lets (text.drop e) = i + lets (text.drop i)) (fun e => text.length - e) i ⟨by omega, by omega, rfl⟩
              ⟨.refl _, .refl _, .refl _, .refl _, trivial⟩ (HLe.refl _) ?_
            intro e ⟨he1, he2, he3⟩
            repeat (first | refine wk hT rfl rfl ?_ | refine wd hT rfl rfl rfl ?_ | refine wz hT rfl ?_ | refine AWd_nil ?_ | refine AWk_nil ?_ | refine wh hT rfl rfl rfl rfl ?_ | refine wg hT rfl rfl rfl rfl rfl ?_ | refine AW_seq ?_ | refine AW_region ?_ | refine wx mixed ?_ | refine AW_block ?_ | refine AW_skip ?_ | refine AW_exit ?_ | refine AW_ret ?_)
            refine AW_condL rfl (fun h7 => ?_) (fun h7 => ?_)
            · have h7' : e < text.length ∧ 97 ≤ strAt text e ∧ strAt text e ≤ 122 := by simpa [and_assoc] using h7
              have hlt2 := h7'.1
              have hd2 : text.drop e = text[e] :: text.drop (e + 1) := by simp
              have hwr2 : IntKind.i64.wrap ((e : Int) + 1) = ((e + 1 : Nat) : Int) := by rw [wrap_id (by omega)]; simp
              have hlow : isLow text[e] = true := by rw [strAt_get hlt2] at h7'; simp [isLow]; omega
              rw [hd2, lets, if_pos hlow] at he3
              repeat (first | refine wk hT rfl rfl ?_ | refine wd hT rfl rfl rfl ?_ | refine wz hT rfl ?_ | refine AWd_nil ?_ | refine AWk_nil ?_ | refine wh hT rfl rfl rfl rfl ?_ | refine wg hT rfl rfl rfl rfl rfl ?_ | refine AW_seq ?_ | refine AW_region ?_ | refine wx mixed ?_ | refine AW_block ?_ | refine AW_skip ?_ | refine AW_exit ?_ | refine AW_ret ?_)
              exact ⟨e + 1, ⟨by omega, by omega, by omega⟩, by omega, ⟨.refl _, .refl _, .refl _, AV.le.eq (by show AV.d (.int .i64 (IntKind.i64.wrap ((e : Int) + 1))) = _; rw [hwr2]), trivial⟩, HLe.refl _⟩
            · have hend : lets (text.drop e) = 0 := by
                by_cases hlt2 : e < text.length
                · have hd2 : text.drop e = text[e] :: text.drop (e + 1) := by simp
                  have : ¬ isLow text[e] = true := by
                    intro hh
                    rw [strAt_get hlt2] at h7
                    simp [isLow] at hh
                    simp [hlt2, hh] at h7
                    omega
                  rw [hd2, lets, if_neg this]
                · rw [List.drop_eq_nil_of_le (by omega)]; rfl
              rw [← hd] at hw
              have he : e = i + lets (text.drop i) := by omega
              have hpos : 0 < lets (text.drop i) := by rw [hd, lets, if_pos hc6]; omega
              have hcut : cutL text (i : Int) ((i + lets (text.drop i) : Nat) : Int) = (text.drop i).take (lets (text.drop i)) := by
                show (text.drop i).take (i + lets (text.drop i) - i) = _
                rw [Nat.add_sub_cancel_left]
              repeat (first | refine wk hT rfl rfl ?_ | refine wd hT rfl rfl rfl ?_ | refine wz hT rfl ?_ | refine AWd_nil ?_ | refine AWk_nil ?_ | refine wh hT rfl rfl rfl rfl ?_ | refine wg hT rfl rfl rfl rfl rfl ?_ | refine AW_seq ?_ | refine AW_region ?_ | refine wx mixed ?_ | refine AW_block ?_ | refine AW_skip ?_ | refine AW_exit ?_ | refine AW_ret ?_)
              subst he
              refine AWk_op (append_right (i := 0) hT rfl rfl rfl rfl rfl rfl (by show ((encWs out).length + 1) * (24 + 1) ≤ 140737488355328; rw [encWs_length]; omega)) rfl ?_
              repeat (first | refine wk hT rfl rfl ?_ | refine wd hT rfl rfl rfl ?_ | refine wz hT rfl ?_ | refine AWd_nil ?_ | refine AWk_nil ?_ | refine wh hT rfl rfl rfl rfl ?_ | refine wg hT rfl rfl rfl rfl rfl ?_ | refine AW_seq ?_ | refine AW_region ?_ | refine wx mixed ?_ | refine AW_block ?_ | refine AW_skip ?_ | refine AW_exit ?_ | refine AW_ret ?_)
              refine ⟨(i + lets (text.drop i), out ++ [((text.drop i).take (lets (text.drop i)), i)]), ⟨by simp only; omega, by simp only [List.length_append, List.length_cons, List.length_nil]; omega, m, by simp only; omega, hw⟩, by simp only; omega, ⟨.refl _, AV.le.eq ?_, .refl _, trivial⟩, ?_⟩
              · show AV.sl 2 (encWs out ++ [[.str (cutL text (i : Int) ((i + lets (text.drop i) : Nat) : Int)), .int .i64 i]]) (.right 0) = _
                rw [hcut]; simp [encWs]
              · exact ⟨⟨rfl, by simp [encWs]⟩, trivial⟩
          · have hc6 : ¬ isLow text[i] = true := by
              intro hc; rw [hat] at h6; simp [isLow] at hc; simp at h6; omega
            rw [if_neg hc6] at hw
            repeat (first | refine wk hT rfl rfl ?_ | refine wd hT rfl rfl rfl ?_ | refine wz hT rfl ?_ | refine AWd_nil ?_ | refine AWk_nil ?_ | refine wh hT rfl rfl rfl rfl ?_ | refine wg hT rfl rfl rfl rfl rfl ?_ | refine AW_seq ?_ | refine AW_region ?_ | refine wx mixed ?_ | refine AW_block ?_ | refine AW_skip ?_ | refine AW_exit ?_ | refine AW_ret ?_)
            refine ret_exact (r := .tup [.d (.sl 2 (encWs out)), .d (.int .i64 i)]) rfl (AV.le.tup ⟨AV.le.dat, .refl _, trivial⟩) rfl rfl rfl rfl ⟨?_, rfl⟩
            rw [← hw]
  · have hge : i = text.length := by simp at h1; omega
    rw [List.drop_eq_nil_of_le (by omega)] at hw
    repeat (first | refine wk hT rfl rfl ?_ | refine wd hT rfl rfl rfl ?_ | refine wz hT rfl ?_ | refine AWd_nil ?_ | refine AWk_nil ?_ | refine wh hT rfl rfl rfl rfl ?_ | refine wg hT rfl rfl rfl rfl rfl ?_ | refine AW_seq ?_ | refine AW_region ?_ | refine wx mixed ?_ | refine AW_block ?_ | refine AW_skip ?_ | refine AW_exit ?_ | refine AW_ret ?_)
    refine ret_exact (r := .tup [.d (.sl 2 (encWs out)), .d (.int .i64 (-1))]) rfl (AV.le.tup ⟨AV.le.dat, .refl _, trivial⟩) rfl rfl rfl rfl ⟨?_, rfl⟩
    rw [← hw]
end Tdoc
/- The reference's parser: conditions as one. -/
set_option linter.unusedVariables false
set_option linter.unusedSimpArgs false
namespace Tdoc
open Go Go.Proofs

def flatL (kind : Int) (l : List Cond) : List Cond := l.flatMap (flatC kind)
def joinR (kind : Int) : List Cond → Cond
  | [c] => c
  | l => .mk kind 0 0 (flatL kind l)

theorem flatL_append (kind : Int) (a b : List Cond) : flatL kind (a ++ b) = flatL kind a ++ flatL kind b := by simp [flatL]
theorem flatL_one (kind : Int) (c : Cond) : flatL kind [c] = flatC kind c := by simp [flatL]
theorem flatL_take_le (kind : Int) (l : List Cond) (k : Nat) : (flatL kind (l.take k)).length ≤ (flatL kind l).length := by
  have h : flatL kind l = flatL kind (l.take k) ++ flatL kind (l.drop k) := by rw [← flatL_append, List.take_append_drop]
  rw [h, List.length_append]; omega
theorem flatL_take_succ (kind : Int) {l : List Cond} {k : Nat} (hk : k < l.length) : flatL kind (l.take (k + 1)) = flatL kind (l.take k) ++ flatC kind l[k] := by
  rw [List.take_succ_eq_append_getElem hk, flatL_append, flatL_one]

set_option maxHeartbeats 4000000 in
set_option maxRecDepth 100000 in
theorem join_spec (kind : Int) (l : List Cond) (hl : l.length ≤ 4000000) (hf : (flatL kind l).length ≤ 4000000) :
    Spec Tryz.prog 78 [.d (.int .i64 kind), .d (.sl 4 (encCs l))] [] (fun r h' => r = cAV (joinR kind l) ∧ h' = []) := by
  refine Spec_of_body hT Tryz.func78 rfl rfl rfl rfl ?_
  intro E hE
  have hlen := encCs_length l
  repeat (first | refine wk hT rfl rfl ?_ | refine wd hT rfl rfl rfl ?_ | refine wz hT rfl ?_ | refine AWd_nil ?_ | refine AWk_nil ?_ | refine wh hT rfl rfl rfl rfl ?_ | refine wg hT rfl rfl rfl rfl rfl ?_ | refine AW_seq ?_ | refine AW_region ?_ | refine wx mixed ?_ | refine AW_block ?_ | refine AW_skip ?_ | refine AW_exit ?_ | refine AW_ret ?_)
  refine AW_condL rfl (fun h1 => ?_) (fun h1 => ?_)
  · have h1' : l.length = 1 := by rw [hlen] at h1; simp at h1; omega
    obtain ⟨⟨ck, cc, cv, kids⟩, rfl⟩ : ∃ c, l = [c] := List.length_eq_one_iff.1 h1'
    repeat (first | refine wk hT rfl rfl ?_ | refine wd hT rfl rfl rfl ?_ | refine wz hT rfl ?_ | refine AWd_nil ?_ | refine AWk_nil ?_ | refine wh hT rfl rfl rfl rfl ?_ | refine wg hT rfl rfl rfl rfl rfl ?_ | refine AW_seq ?_ | refine AW_region ?_ | refine wx mixed ?_ | refine AW_block ?_ | refine AW_skip ?_ | refine AW_exit ?_ | refine AW_ret ?_)
    have hel : (encCs [.mk ck cc cv kids])[((0 : Int)).toNat]? = some [.int .i64 ck, .int .i64 cc, .int .i64 cv, .sl 4 (encCs kids)] := by simp [encCs, encC]
    refine AWk_op (OpS_of_pure (indexAddr_ok hT rfl rfl rfl rfl (by decide) hel)) rfl ?_
    repeat (first | refine wk hT rfl rfl ?_ | refine wd hT rfl rfl rfl ?_ | refine wz hT rfl ?_ | refine AWd_nil ?_ | refine AWk_nil ?_ | refine wh hT rfl rfl rfl rfl ?_ | refine wg hT rfl rfl rfl rfl rfl ?_ | refine AW_seq ?_ | refine AW_region ?_ | refine wx mixed ?_ | refine AW_block ?_ | refine AW_skip ?_ | refine AW_exit ?_ | refine AW_ret ?_)
    exact ret_exact (r := cAV (.mk ck cc cv kids)) rfl (.refl _) rfl rfl rfl rfl ⟨rfl, rfl⟩
  · have h1' : l.length ≠ 1 := by rw [hlen] at h1; simp at h1; omega
    have hj : joinR kind l = .mk kind 0 0 (flatL kind l) := by
      unfold joinR; split
      · simp at h1'
      · rfl
    rw [hj]
    repeat (first | refine wk hT rfl rfl ?_ | refine wd hT rfl rfl rfl ?_ | refine wz hT rfl ?_ | refine AWd_nil ?_ | refine AWk_nil ?_ | refine wh hT rfl rfl rfl rfl ?_ | refine wg hT rfl rfl rfl rfl rfl ?_ | refine AW_seq ?_ | refine AW_region ?_ | refine wx mixed ?_ | refine AW_block ?_ | refine AW_skip ?_ | refine AW_exit ?_ | refine AW_ret ?_)
    refine AW_room (AW_acquireH 1 3 2 4 rfl rfl rfl ?_)
    refine AW_loopL (ι := Nat) (fun k => [(0, .d (.int .i64 kind)), (1, .d (.sl 4 (encCs l))), (4, .ptr 0 0), (5, .ptr 1 0), (6, .d (.int .i64 k))])
      (fun k => [.row [.d (.int .i64 0), .d (.int .i64 0), .d (.int .i64 0), .sl 4 [] .full], .row [.d (.int .i64 kind), .d (.int .i64 0), .d (.int .i64 0), .sl 4 (encCs (flatL kind (l.take k))) (.right 2)], .right 4 (encCs (flatL kind (l.take k))).length])
      (fun k => k ≤ l.length) (fun k => l.length - k) 0 (by omega) ⟨.refl _, .refl _, .refl _, .refl _, .refl _, trivial⟩ (HLe.refl _) ?_
    intro k hk
    repeat (first | refine wk hT rfl rfl ?_ | refine wd hT rfl rfl rfl ?_ | refine wz hT rfl ?_ | refine AWd_nil ?_ | refine AWk_nil ?_ | refine wh hT rfl rfl rfl rfl ?_ | refine wg hT rfl rfl rfl rfl rfl ?_ | refine AW_seq ?_ | refine AW_region ?_ | refine wx mixed ?_ | refine AW_block ?_ | refine AW_skip ?_ | refine AW_exit ?_ | refine AW_ret ?_)
    refine AW_condL rfl (fun h2 => ?_) (fun h2 => ?_)
    · have hlt : k < l.length := by rw [hlen] at h2; simpa using h2
      have hwr : IntKind.i64.wrap ((k : Int) + 1) = ((k + 1 : Nat) : Int) := by rw [wrap_id (by omega)]; simp
      have hsucc := flatL_take_succ kind hlt
      have hle1 := flatL_take_le kind l (k + 1)
      have hel : (encCs l)[((k : Int)).toNat]? = some (encC l[k]) := by simp [encCs_eq, hlt]
      generalize l[k] = c at hel hsucc
      obtain ⟨ck, cc, cv, kids⟩ := c
      rw [encC] at hel
      repeat (first | refine wk hT rfl rfl ?_ | refine wd hT rfl rfl rfl ?_ | refine wz hT rfl ?_ | refine AWd_nil ?_ | refine AWk_nil ?_ | refine wh hT rfl rfl rfl rfl ?_ | refine wg hT rfl rfl rfl rfl rfl ?_ | refine AW_seq ?_ | refine AW_region ?_ | refine wx mixed ?_ | refine AW_block ?_ | refine AW_skip ?_ | refine AW_exit ?_ | refine AW_ret ?_)
      refine AWk_op (OpS_of_pure (indexAddr_ok hT rfl rfl rfl rfl (by omega) hel)) rfl ?_
      repeat (first | refine wk hT rfl rfl ?_ | refine wd hT rfl rfl rfl ?_ | refine wz hT rfl ?_ | refine AWd_nil ?_ | refine AWk_nil ?_ | refine wh hT rfl rfl rfl rfl ?_ | refine wg hT rfl rfl rfl rfl rfl ?_ | refine AW_seq ?_ | refine AW_region ?_ | refine wx mixed ?_ | refine AW_block ?_ | refine AW_skip ?_ | refine AW_exit ?_ | refine AW_ret ?_)
      refine AW_condL rfl (fun h3 => ?_) (fun h3 => ?_)
      · have h3' : ck = kind := by simpa using h3
        rw [flatC, if_pos h3'] at hsucc
        rw [hsucc, List.length_append] at hle1
        try rw [List.length_singleton] at hle1
        repeat (first | refine AW_exit ?_ | refine AW_skip ?_)
        refine AW_drawG (fun i => bif Nat.beq i 1 || Nat.beq i 9 then [1] else bif Nat.beq i 7 then [2] else []) (fun i => bif Nat.beq i 9 then [1] else bif Nat.beq i 7 then [2] else []) mixed (by kernel_rfl) ?_
        repeat (first | refine AWg_load hT rfl rfl rfl rfl (by first | exact List.mem_cons_self | exact sm) rfl ?_ | refine AWg_pure hT (fun _ => rfl) rfl rfl (by first | exact True.intro | omega | exact sd) ?_ | refine AWg_store hT rfl rfl rfl (by first | exact List.mem_cons_self | exact sm) rfl ?_ | refine AWd_nil ?_)
        refine AWg_op (os := []) (fun k hk1 hk2 => OpS_of_pure (indexAddr_ok hT rfl rfl rfl rfl (by omega) hel)) rfl ?_
        repeat (first | refine AWg_load hT rfl rfl rfl rfl (by first | exact List.mem_cons_self | exact sm) rfl ?_ | refine AWg_pure hT (fun _ => rfl) rfl rfl (by first | exact True.intro | omega | exact sd) ?_ | refine AWg_store hT rfl rfl rfl (by first | exact List.mem_cons_self | exact sm) rfl ?_ | refine AWd_nil ?_)
        refine AWg_op (v := .sl 4 (encCs (flatL kind (l.take k)) ++ encCs kids) (.right 2)) (os := [.right 4 ((encCs (flatL kind (l.take k))).length + (encCs kids).length)]) (fun hx hk1 hk2 => append_right (i := 2) hT rfl rfl rfl rfl ((hk2 2 List.mem_cons_self).trans rfl) rfl (by show ((encCs (flatL kind (l.take k))).length + (encCs kids).length) * (48 + 1) ≤ 140737488355328; rw [encCs_length, encCs_length]; omega)) rfl ?_
        repeat (first | refine AWg_load hT rfl rfl rfl rfl (by first | exact List.mem_cons_self | exact sm) rfl ?_ | refine AWg_pure hT (fun _ => rfl) rfl rfl (by first | exact True.intro | omega | exact sd) ?_ | refine AWg_store hT rfl rfl rfl (by first | exact List.mem_cons_self | exact sm) rfl ?_ | refine AWd_nil ?_)
        repeat (first | refine wk hT rfl rfl ?_ | refine wd hT rfl rfl rfl ?_ | refine wz hT rfl ?_ | refine AWd_nil ?_ | refine AWk_nil ?_ | refine wh hT rfl rfl rfl rfl ?_ | refine wg hT rfl rfl rfl rfl rfl ?_ | refine AW_seq ?_ | refine AW_region ?_ | refine wx mixed ?_ | refine AW_block ?_ | refine AW_skip ?_ | refine AW_exit ?_ | refine AW_ret ?_)
        refine ⟨k + 1, by omega, by omega, ⟨.refl _, .refl _, .refl _, .refl _, AV.le.eq (by show AV.d (.int .i64 (IntKind.i64.wrap ((k : Int) + 1))) = _; rw [hwr]), trivial⟩, ⟨ObLe.refl _, ⟨.refl _, .refl _, .refl _, AV.le.eq ?_, trivial⟩, ⟨rfl, ?_⟩, trivial⟩⟩
        · rw [hsucc, encCs_append]
        · rw [hsucc, encCs_append, List.length_append]
      · have h3' : ¬ ck = kind := by simpa using h3
        rw [flatC, if_neg h3'] at hsucc
        rw [hsucc, List.length_append] at hle1
        try rw [List.length_singleton] at hle1
        repeat (first | refine AW_exit ?_ | refine AW_skip ?_)
        refine AW_drawG (fun i => bif Nat.beq i 1 || Nat.beq i 9 then [1] else bif Nat.beq i 7 then [2] else []) (fun i => bif Nat.beq i 9 then [1] else bif Nat.beq i 7 then [2] else []) mixed (by kernel_rfl) ?_
        repeat (first | refine AWg_load hT rfl rfl rfl rfl (by first | exact List.mem_cons_self | exact sm) rfl ?_ | refine AWg_pure hT (fun _ => rfl) rfl rfl (by first | exact True.intro | omega | exact sd) ?_ | refine AWg_store hT rfl rfl rfl (by first | exact List.mem_cons_self | exact sm) rfl ?_ | refine AWd_nil ?_)
        refine AWg_op (os := []) (fun k hk1 hk2 => OpS_of_pure (indexAddr_ok hT rfl rfl rfl rfl (by omega) hel)) rfl ?_
        repeat (first | refine AWg_load hT rfl rfl rfl rfl (by first | exact List.mem_cons_self | exact sm) rfl ?_ | refine AWg_pure hT (fun _ => rfl) rfl rfl (by first | exact True.intro | omega | exact sd) ?_ | refine AWg_store hT rfl rfl rfl (by first | exact List.mem_cons_self | exact sm) rfl ?_ | refine AWd_nil ?_)
        refine AWg_op (os := []) (fun k hk1 hk2 => buildSl_ok hT rfl rfl) rfl ?_
        refine AWg_op (v := .sl 4 (encCs (flatL kind (l.take k)) ++ encCs [.mk ck cc cv kids]) (.right 2)) (os := [.right 4 ((encCs (flatL kind (l.take k))).length + (encCs [.mk ck cc cv kids]).length)]) (fun hx hk1 hk2 => append_right (i := 2) hT rfl rfl rfl rfl ((hk2 2 List.mem_cons_self).trans rfl) rfl (by show ((encCs (flatL kind (l.take k))).length + (encCs [.mk ck cc cv kids]).length) * (48 + 1) ≤ 140737488355328; rw [encCs_length, encCs_length, List.length_singleton]; omega)) rfl ?_
        repeat (first | refine AWg_load hT rfl rfl rfl rfl (by first | exact List.mem_cons_self | exact sm) rfl ?_ | refine AWg_pure hT (fun _ => rfl) rfl rfl (by first | exact True.intro | omega | exact sd) ?_ | refine AWg_store hT rfl rfl rfl (by first | exact List.mem_cons_self | exact sm) rfl ?_ | refine AWd_nil ?_)
        repeat (first | refine wk hT rfl rfl ?_ | refine wd hT rfl rfl rfl ?_ | refine wz hT rfl ?_ | refine AWd_nil ?_ | refine AWk_nil ?_ | refine wh hT rfl rfl rfl rfl ?_ | refine wg hT rfl rfl rfl rfl rfl ?_ | refine AW_seq ?_ | refine AW_region ?_ | refine wx mixed ?_ | refine AW_block ?_ | refine AW_skip ?_ | refine AW_exit ?_ | refine AW_ret ?_)
        refine ⟨k + 1, by omega, by omega, ⟨.refl _, .refl _, .refl _, .refl _, AV.le.eq (by show AV.d (.int .i64 (IntKind.i64.wrap ((k : Int) + 1))) = _; rw [hwr]), trivial⟩, ⟨ObLe.refl _, ⟨.refl _, .refl _, .refl _, AV.le.eq ?_, trivial⟩, ⟨rfl, ?_⟩, trivial⟩⟩
        · rw [hsucc, encCs_append]
        · rw [hsucc, encCs_append, List.length_append]
    · have hge : k = l.length := by rw [hlen] at h2; simp at h2; omega
      subst hge
      simp only [List.take_length]
      repeat (first | refine wk hT rfl rfl ?_ | refine wd hT rfl rfl rfl ?_ | refine wz hT rfl ?_ | refine AWd_nil ?_ | refine AWk_nil ?_ | refine wh hT rfl rfl rfl rfl ?_ | refine wg hT rfl rfl rfl rfl rfl ?_ | refine AW_seq ?_ | refine AW_region ?_ | refine wx mixed ?_ | refine AW_block ?_ | refine AW_skip ?_ | refine AW_exit ?_ | refine AW_ret ?_)
      refine ret_exact (r := cAV (.mk kind 0 0 (flatL kind l))) rfl (AV.le.agg ⟨.refl _, .refl _, .refl _, AV.le.dat, trivial⟩) rfl rfl rfl rfl ⟨rfl, rfl⟩
end Tdoc
/- The reference's parser: conditions. -/
set_option linter.unusedVariables false
set_option linter.unusedSimpArgs false
namespace Tdoc
open Go Go.Proofs

def RS.inc (s : RS) : RS := { s with i := s.i + 1 }

def loopR (ws : List Wd) (w : List UInt8) (part : RS → Cond × RS) : Nat → List Cond → RS → List Cond × RS
  | 0, l, s => (l, s)
  | m + 1, l, s => if s.bad < 0 ∧ peekR ws s = w then loopR ws w part m (l ++ [(part s.inc).1]) (part s.inc).2 else (l, s)

def seriesR (ws : List Wd) (kind : Int) (w : List UInt8) (part : RS → Cond × RS) (s : RS) : Cond × RS :=
  (joinR kind (loopR ws w part (ws.length + 1) [(part s).1] (part s).2).1, (loopR ws w part (ws.length + 1) [(part s).1] (part s).2).2)

def atomR (ws : List Wd) : Nat → RS → Cond × RS
  | 0, s => (.mk 0 0 0 [], s)
  | n + 1, s =>
    if 0 ≤ s.bad then (.mk 0 0 0 [], s)
    else if peekR ws s = notW then (.mk 2 0 0 [(atomR ws n s.inc).1], (atomR ws n s.inc).2)
    else if peekR ws s = lpW then ((seriesR ws 4 orW (seriesR ws 3 andW (atomR ws n)) s.inc).1, takeR ws (seriesR ws 4 orW (seriesR ws 3 andW (atomR ws n)) s.inc).2 rpW)
    else if sIdx chk (peekR ws s) + 1 = 0 then (.mk 0 0 0 [], failR ws s)
    else if peekR ws s.inc = isW then
      (.mk 1 (sIdx chk (peekR ws s) + 1) (sIdx vls (peekR ws s.inc.inc) + 1) [], (if sIdx vls (peekR ws s.inc.inc) + 1 = 0 then failR ws s.inc.inc else s.inc.inc).inc)
    else (.mk 1 (sIdx chk (peekR ws s) + 1) 1 [], s.inc)

def conjR (ws : List Wd) (n : Nat) : RS → Cond × RS := seriesR ws 3 andW (atomR ws n)
def condR' (ws : List Wd) (n : Nat) : RS → Cond × RS := seriesR ws 4 orW (conjR ws n)

theorem failR_i (ws : List Wd) (s : RS) : (failR ws s).i = s.i := by unfold failR; split <;> rfl
theorem takeR_i (ws : List Wd) (s : RS) (w : List UInt8) : (takeR ws s w).i = s.i + 1 := by unfold takeR; split <;> rfl
theorem peekR_lt {ws : List Wd} {s : RS} (h : peekR ws s ≠ []) : s.i < ws.length := by
  unfold peekR at h
  split at h
  · rename_i w hw; exact (List.getElem?_eq_some_iff.1 hw).1
  · exact absurd rfl h

structure POk (ws : List Wd) (n : Nat) (part : RS → Cond × RS) : Prop where
  inv : ∀ s, s.i ≤ ws.length → ws.length - s.i < n → s.i ≤ (part s).2.i ∧ (part s).2.i ≤ ws.length + n ∧ wideC (part s).1 ≤ 1 + ((part s).2.i - s.i)

/-- What a list of conditions keeps. -/
structure LOk (ws : List Wd) (kind : Int) (n b : Nat) (l : List Cond) (s : RS) : Prop where
  lo : b ≤ s.i
  hi : s.i ≤ ws.length + n
  len : l.length ≤ 1 + (s.i - b)
  flat : (flatL kind l).length ≤ 1 + (s.i - b)
  wide : ∀ c, c ∈ l → wideC c ≤ 1 + (s.i - b)

theorem LOk.one {ws : List Wd} {kind : Int} {n : Nat} {part : RS → Cond × RS} (hp : POk ws n part) {s : RS} (h : s.i ≤ ws.length) (hn : ws.length - s.i < n) : LOk ws kind n s.i [(part s).1] (part s).2 := by
  obtain ⟨k1, k2, k3⟩ := hp.inv s h hn
  have hf := flatC_len kind (part s).1
  refine ⟨k1, k2, by simp, by rw [flatL_one]; omega, fun c hc => ?_⟩
  rw [List.mem_singleton.1 hc]; exact k3

theorem LOk.more {ws : List Wd} {kind : Int} {n b : Nat} {part : RS → Cond × RS} (hp : POk ws n part) {l : List Cond} {s : RS} (h : LOk ws kind n b l s) (hlt : s.i < ws.length) (hn : ws.length - s.i < n + 1) :
    LOk ws kind n b (l ++ [(part s.inc).1]) (part s.inc).2 ∧ s.i < (part s.inc).2.i := by
  have hi : s.inc.i = s.i + 1 := rfl
  obtain ⟨k1, k2, k3⟩ := hp.inv s.inc (by omega) (by omega)
  have hf := flatC_len kind (part s.inc).1
  have := h.lo; have := h.len; have := h.flat
  refine ⟨⟨by omega, k2, by rw [List.length_append, List.length_singleton]; omega, by rw [flatL_append, flatL_one, List.length_append]; omega, fun c hc => ?_⟩, by omega⟩
  rcases List.mem_append.1 hc with hc | hc
  · have := h.wide c hc; omega
  · rw [List.mem_singleton.1 hc]; omega

theorem loopR_ok {ws : List Wd} {kind : Int} {n b : Nat} {part : RS → Cond × RS} (hp : POk ws n part) {w : List UInt8} (hw : w ≠ []) : ∀ (m : Nat) (l : List Cond) (s : RS), LOk ws kind n b l s → ws.length - s.i < n + 1 →
    LOk ws kind n b (loopR ws w part m l s).1 (loopR ws w part m l s).2
  | 0, l, s, h, hn => h
  | m + 1, l, s, h, hn => by
    unfold loopR
    split
    · rename_i hc
      have hlt := peekR_lt (ws := ws) (s := s) (by rw [hc.2]; exact hw)
      obtain ⟨h1, h2⟩ := h.more hp hlt hn
      exact loopR_ok hp hw m _ _ h1 (by omega)
    · exact h

theorem joinR_wide {ws : List Wd} {kind : Int} {n b : Nat} {l : List Cond} {s : RS} (h : LOk ws kind n b l s) : wideC (joinR kind l) ≤ 1 + (s.i - b) := by
  unfold joinR
  split
  · exact h.wide _ (by simp)
  · exact h.flat

theorem seriesR_ok {ws : List Wd} {n : Nat} {part : RS → Cond × RS} (hp : POk ws n part) (kind : Int) {w : List UInt8} (hw : w ≠ []) : POk ws n (seriesR ws kind w part) := by
  refine ⟨fun s h hn => ?_⟩
  have h1 := LOk.one (kind := kind) hp h hn
  have hlo := h1.lo
  have h2 := loopR_ok hp hw (ws.length + 1) _ _ h1 (by omega)
  exact ⟨h2.lo, h2.hi, joinR_wide h2⟩

theorem atomR_ok (ws : List Wd) : ∀ n, POk ws n (atomR ws n)
  | 0 => ⟨fun s _ hn => by omega⟩
  | n + 1 => by
    have ih := atomR_ok ws n
    refine ⟨fun s h hn => ?_⟩
    have hi : s.inc.i = s.i + 1 := rfl
    unfold atomR
    split
    · exact ⟨Nat.le_refl _, by simp only; omega, by simp only [wideC, List.length_nil]; omega⟩
    · split
      · rename_i hc
        have hlt := peekR_lt (ws := ws) (s := s) (by rw [hc]; decide)
        obtain ⟨q1, q2, q3⟩ := ih.inv s.inc (by omega) (by omega)
        exact ⟨by simp only; omega, by simp only; omega, by simp only [wideC, List.length_cons, List.length_nil]; omega⟩
      · split
        · rename_i hc
          have hlt := peekR_lt (ws := ws) (s := s) (by rw [hc]; decide)
          obtain ⟨q1, q2, q3⟩ := (seriesR_ok (seriesR_ok ih 3 (w := andW) (by decide)) 4 (w := orW) (by decide)).inv s.inc (by omega) (by omega)
          exact ⟨by simp only [takeR_i]; omega, by simp only [takeR_i]; omega, by simp only [takeR_i]; omega⟩
        · split
          · exact ⟨by simp only [failR_i]; omega, by simp only [failR_i]; omega, by simp only [wideC, List.length_nil]; omega⟩
          · rename_i hc
            have hlt := peekR_lt (ws := ws) (s := s) (by intro hz; rw [hz] at hc; exact hc (by decide))
            split
            · rename_i hc2
              have hlt2 := peekR_lt (ws := ws) (s := s.inc) (by rw [hc2]; decide)
              have e1 : ∀ x : RS, x.inc.i = x.i + 1 := fun _ => rfl
              refine ⟨?_, ?_, by simp only [wideC, List.length_nil]; omega⟩
              · simp only [e1]; split <;> simp only [failR_i, e1] <;> omega
              · simp only [e1]; split <;> simp only [failR_i, e1] <;> omega
            · exact ⟨by simp only; omega, by simp only; omega, by simp only [wideC, List.length_nil]; omega⟩

theorem conjR_ok (ws : List Wd) (n : Nat) : POk ws n (conjR ws n) := seriesR_ok (atomR_ok ws n) 3 (by decide)
theorem condR'_ok (ws : List Wd) (n : Nat) : POk ws n (condR' ws n) := seriesR_ok (conjR_ok ws n) 4 (by decide)

def PSpec (ws : List Wd) (n : Nat) (g : FuncId) (part : RS → Cond × RS) : Prop :=
  ∀ s, s.i ≤ ws.length → ws.length - s.i < n → Spec Tryz.prog g [.ptr 0 0] [.row (rsr ws s)] (fun r h' => r = cAV (part s).1 ∧ h' = [.row (rsr ws (part s).2)])

set_option maxHeartbeats 4000000 in
set_option maxRecDepth 100000 in
theorem conjR_spec {ws : List Wd} {n : Nat} (hl : ws.length ≤ 1000000) (hn1 : n ≤ 1000001) (HS : PSpec ws n 97 (atomR ws n)) : PSpec ws n 77 (conjR ws n) := by
  have hp := atomR_ok ws n
  intro s h hn
  have hS := HS s h hn
  have hl1 := LOk.one (kind := 3) hp h hn
  have hl1lo := hl1.lo
  unfold conjR seriesR
  generalize hfin : loopR ws andW (atomR ws n) (ws.length + 1) [(atomR ws n s).1] (atomR ws n s).2 = fin
  generalize atomR ws n s = ps at hS hl1 hl1lo hfin
  obtain ⟨⟨ck, cc, cv, kids⟩, s1⟩ := ps
  simp only at hS hl1 hl1lo hfin
  refine Spec_of_body hT Tryz.func77 rfl rfl rfl rfl ?_
  intro E hE
  repeat (first | refine wk hT rfl rfl ?_ | refine wd hT rfl rfl rfl ?_ | refine wz hT rfl ?_ | refine AWd_nil ?_ | refine AWk_nil ?_ | refine wh hT rfl rfl rfl rfl ?_ | refine wg hT rfl rfl rfl rfl rfl ?_ | refine AW_seq ?_ | refine AW_region ?_ | refine wx mixed ?_ | refine AW_block ?_ | refine AW_skip ?_ | refine AW_exit ?_ | refine AW_ret ?_)
  refine AWk_op (callS1 rfl rfl hS [0] (by decide) rfl rfl rfl (lowH_rsr 0 _ _) (lowH_rsr 0 _ _) (ren_cAV _ _) rfl) rfl ?_
  repeat (first | refine wk hT rfl rfl ?_ | refine wd hT rfl rfl rfl ?_ | refine wz hT rfl ?_ | refine AWd_nil ?_ | refine AWk_nil ?_ | refine wh hT rfl rfl rfl rfl ?_ | refine wg hT rfl rfl rfl rfl rfl ?_ | refine AW_seq ?_ | refine AW_region ?_ | refine wx mixed ?_ | refine AW_block ?_ | refine AW_skip ?_ | refine AW_exit ?_ | refine AW_ret ?_)
  refine AW_room (AW_acquireAt 3 4 2 (.inl rfl) rfl ?_)
  refine AW_loopL (ι := List Cond × RS) (fun x => [(0, .ptr 0 0), (2, .ptr 1 0), (3, .sl 4 (encCs x.1) (.right 2))])
    (fun x => [.row (rsr ws x.2), .row [.d (.int .i64 0), .d (.int .i64 0), .d (.int .i64 0), .sl 4 [] .full], .right 4 (encCs x.1).length])
    (fun x => LOk ws 3 n s.i x.1 x.2 ∧ ∃ m, ws.length - x.2.i < m ∧ loopR ws andW (atomR ws n) m x.1 x.2 = fin) (fun x => ws.length - x.2.i)
    ([.mk ck cc cv kids], s1) ⟨hl1, ws.length + 1, by simp only; omega, hfin⟩ ⟨.refl _, .refl _, .refl _, trivial⟩ (HLe.refl _) ?_
  rintro ⟨l, s2⟩ ⟨j1, m, j4, j5⟩
  simp only at j1 j4 j5 ⊢
  obtain ⟨m, rfl⟩ : ∃ m', m = m' + 1 := ⟨m - 1, by omega⟩
  rw [loopR] at j5
  have hpk := peek_spec ws s2
  have hplt := peekR_lt (ws := ws) (s := s2)
  generalize peekR ws s2 = pk at hpk hplt j5
  obtain ⟨i2, en2, bad2⟩ := s2
  simp only at j4 hplt
  repeat (first | refine wk hT rfl rfl ?_ | refine wd hT rfl rfl rfl ?_ | refine wz hT rfl ?_ | refine AWd_nil ?_ | refine AWk_nil ?_ | refine wh hT rfl rfl rfl rfl ?_ | refine wg hT rfl rfl rfl rfl rfl ?_ | refine AW_seq ?_ | refine AW_region ?_ | refine wx mixed ?_ | refine AW_block ?_ | refine AW_skip ?_ | refine AW_exit ?_ | refine AW_ret ?_)
  refine AWk_gop rfl rfl rfl (fun hg => ⟨by first | exact True.intro | exact ⟨hg, True.intro⟩, callS1 rfl rfl hpk [0] (by decide) rfl rfl rfl rfl rfl rfl rfl⟩) ?_
  repeat (first | refine wk hT rfl rfl ?_ | refine wd hT rfl rfl rfl ?_ | refine wz hT rfl ?_ | refine AWd_nil ?_ | refine AWk_nil ?_ | refine wh hT rfl rfl rfl rfl ?_ | refine wg hT rfl rfl rfl rfl rfl ?_ | refine AW_seq ?_ | refine AW_region ?_ | refine wx mixed ?_ | refine AW_block ?_ | refine AW_skip ?_ | refine AW_exit ?_ | refine AW_ret ?_)
  refine AW_condL rfl (fun h2 => ?_) (fun h2 => ?_)
  · have h2' : bad2 < 0 ∧ pk = andW := by simpa [andW, orW] using h2
    rw [if_pos h2'] at j5
    have hlt := hplt (by rw [h2'.2]; decide)
    have hlo := j1.lo
    simp only at hlo
    obtain ⟨k1, k2⟩ := j1.more hp hlt (by simp only; omega)
    have hS2 := HS (RS.inc ⟨i2, en2, bad2⟩) (by show i2 + 1 ≤ _; omega) (by show _ - (i2 + 1) < _; omega)
    generalize atomR ws n (RS.inc ⟨i2, en2, bad2⟩) = ps2 at hS2 k1 k2 j5
    obtain ⟨⟨dk, dc, dv, dkids⟩, s3⟩ := ps2
    simp only at hS2 k1 k2 j5
    have hwr : IntKind.i64.wrap ((i2 : Int) + 1) = ((i2 + 1 : Nat) : Int) := by rw [wrap_id (by omega)]; simp
    have hlen := j1.len
    simp only at hlen
    repeat (first | refine wk hT rfl rfl ?_ | refine wd hT rfl rfl rfl ?_ | refine wz hT rfl ?_ | refine AWd_nil ?_ | refine AWk_nil ?_ | refine wh hT rfl rfl rfl rfl ?_ | refine wg hT rfl rfl rfl rfl rfl ?_ | refine AW_seq ?_ | refine AW_region ?_ | refine wx mixed ?_ | refine AW_block ?_ | refine AW_skip ?_ | refine AW_exit ?_ | refine AW_ret ?_)
    refine AWk_op (callS1 rfl rfl hS2 [0] (by decide) (by show [some (AObj.row [_, .d (.int .i64 (IntKind.i64.wrap ((i2 : Int) + 1))), _, _])] = _; rw [hwr]; rfl) rfl rfl (lowH_rsr 0 _ _) (lowH_rsr 0 _ _) (ren_cAV _ _) rfl) rfl ?_
    repeat (first | refine wk hT rfl rfl ?_ | refine wd hT rfl rfl rfl ?_ | refine wz hT rfl ?_ | refine AWd_nil ?_ | refine AWk_nil ?_ | refine wh hT rfl rfl rfl rfl ?_ | refine wg hT rfl rfl rfl rfl rfl ?_ | refine AW_seq ?_ | refine AW_region ?_ | refine wx mixed ?_ | refine AW_block ?_ | refine AW_skip ?_ | refine AW_exit ?_ | refine AW_ret ?_)
    refine AWk_op (append_right (i := 2) hT rfl rfl rfl rfl rfl rfl (by show ((encCs l).length + 1) * (48 + 1) ≤ 140737488355328; rw [encCs_length]; omega)) rfl ?_
    repeat (first | refine wk hT rfl rfl ?_ | refine wd hT rfl rfl rfl ?_ | refine wz hT rfl ?_ | refine AWd_nil ?_ | refine AWk_nil ?_ | refine wh hT rfl rfl rfl rfl ?_ | refine wg hT rfl rfl rfl rfl rfl ?_ | refine AW_seq ?_ | refine AW_region ?_ | refine wx mixed ?_ | refine AW_block ?_ | refine AW_skip ?_ | refine AW_exit ?_ | refine AW_ret ?_)
    refine ⟨(l ++ [.mk dk dc dv dkids], s3), ⟨k1, m, by simp only; omega, j5⟩, by simp only; omega, ⟨.refl _, .refl _, AV.le.eq ?_, trivial⟩, ⟨ObLe.refl _, ObLe.refl _, ⟨rfl, ?_⟩, trivial⟩⟩
    · rw [encCs_append]; rfl
    · rw [encCs_append, List.length_append]; rfl
  · have h2' : ¬ (bad2 < 0 ∧ pk = andW) := by simpa [andW, orW] using h2
    rw [if_neg h2'] at j5
    subst j5
    have hhi := j1.hi; have hll := j1.len; have hff := j1.flat
    simp only at hhi hll hff
    have hj := join_spec 3 l (by omega) (by omega)
    generalize joinR 3 l = jc at hj ⊢
    obtain ⟨jk, jch, jv, jkids⟩ := jc
    repeat (first | refine AW_exit ?_ | refine AW_skip ?_)
    refine AW_subL (l := [(0, .ptr 0 0), (2, .ptr 1 0), (3, .d (.sl 4 (encCs l)))]) (h' := [.row (rsr ws ⟨i2, en2, bad2⟩), .row [.d (.int .i64 0), .d (.int .i64 0), .d (.int .i64 0), .sl 4 [] .full], .dead]) ⟨.refl _, .refl _, AV.le.dat, trivial⟩ ⟨ObLe.refl _, ObLe.refl _, trivial, trivial⟩ ?_
    repeat (first | refine wk hT rfl rfl ?_ | refine wd hT rfl rfl rfl ?_ | refine wz hT rfl ?_ | refine AWd_nil ?_ | refine AWk_nil ?_ | refine wh hT rfl rfl rfl rfl ?_ | refine wg hT rfl rfl rfl rfl rfl ?_ | refine AW_seq ?_ | refine AW_region ?_ | refine wx mixed ?_ | refine AW_block ?_ | refine AW_skip ?_ | refine AW_exit ?_ | refine AW_ret ?_)
    refine AWk_op (callS0 rfl rfl hj rfl rfl rfl) rfl ?_
    repeat (first | refine wk hT rfl rfl ?_ | refine wd hT rfl rfl rfl ?_ | refine wz hT rfl ?_ | refine AWd_nil ?_ | refine AWk_nil ?_ | refine wh hT rfl rfl rfl rfl ?_ | refine wg hT rfl rfl rfl rfl rfl ?_ | refine AW_seq ?_ | refine AW_region ?_ | refine wx mixed ?_ | refine AW_block ?_ | refine AW_skip ?_ | refine AW_exit ?_ | refine AW_ret ?_)
    exact ret_exact (r := cAV (.mk jk jch jv jkids)) rfl (.refl _) rfl rfl rfl rfl ⟨rfl, rfl⟩

set_option maxHeartbeats 4000000 in
set_option maxRecDepth 100000 in
theorem condR'_spec {ws : List Wd} {n : Nat} (hl : ws.length ≤ 1000000) (hn1 : n ≤ 1000001) (HS : PSpec ws n 77 (conjR ws n)) : PSpec ws n 57 (condR' ws n) := by
  have hp := conjR_ok ws n
  intro s h hn
  have hS := HS s h hn
  have hl1 := LOk.one (kind := 4) hp h hn
  have hl1lo := hl1.lo
  unfold condR' seriesR
  generalize hfin : loopR ws orW (conjR ws n) (ws.length + 1) [(conjR ws n s).1] (conjR ws n s).2 = fin
  generalize conjR ws n s = ps at hS hl1 hl1lo hfin
  obtain ⟨⟨ck, cc, cv, kids⟩, s1⟩ := ps
  simp only at hS hl1 hl1lo hfin
  refine Spec_of_body hT Tryz.func57 rfl rfl rfl rfl ?_
  intro E hE
  repeat (first | refine wk hT rfl rfl ?_ | refine wd hT rfl rfl rfl ?_ | refine wz hT rfl ?_ | refine AWd_nil ?_ | refine AWk_nil ?_ | refine wh hT rfl rfl rfl rfl ?_ | refine wg hT rfl rfl rfl rfl rfl ?_ | refine AW_seq ?_ | refine AW_region ?_ | refine wx mixed ?_ | refine AW_block ?_ | refine AW_skip ?_ | refine AW_exit ?_ | refine AW_ret ?_)
  refine AWk_op (callS1 rfl rfl hS [0] (by decide) rfl rfl rfl (lowH_rsr 0 _ _) (lowH_rsr 0 _ _) (ren_cAV _ _) rfl) rfl ?_
  repeat (first | refine wk hT rfl rfl ?_ | refine wd hT rfl rfl rfl ?_ | refine wz hT rfl ?_ | refine AWd_nil ?_ | refine AWk_nil ?_ | refine wh hT rfl rfl rfl rfl ?_ | refine wg hT rfl rfl rfl rfl rfl ?_ | refine AW_seq ?_ | refine AW_region ?_ | refine wx mixed ?_ | refine AW_block ?_ | refine AW_skip ?_ | refine AW_exit ?_ | refine AW_ret ?_)
  refine AW_room (AW_acquireAt 3 4 2 (.inl rfl) rfl ?_)
  refine AW_loopL (ι := List Cond × RS) (fun x => [(0, .ptr 0 0), (2, .ptr 1 0), (3, .sl 4 (encCs x.1) (.right 2))])
    (fun x => [.row (rsr ws x.2), .row [.d (.int .i64 0), .d (.int .i64 0), .d (.int .i64 0), .sl 4 [] .full], .right 4 (encCs x.1).length])
    (fun x => LOk ws 4 n s.i x.1 x.2 ∧ ∃ m, ws.length - x.2.i < m ∧ loopR ws orW (conjR ws n) m x.1 x.2 = fin) (fun x => ws.length - x.2.i)
    ([.mk ck cc cv kids], s1) ⟨hl1, ws.length + 1, by simp only; omega, hfin⟩ ⟨.refl _, .refl _, .refl _, trivial⟩ (HLe.refl _) ?_
  rintro ⟨l, s2⟩ ⟨j1, m, j4, j5⟩
  simp only at j1 j4 j5 ⊢
  obtain ⟨m, rfl⟩ : ∃ m', m = m' + 1 := ⟨m - 1, by omega⟩
  rw [loopR] at j5
  have hpk := peek_spec ws s2
  have hplt := peekR_lt (ws := ws) (s := s2)
  generalize peekR ws s2 = pk at hpk hplt j5
  obtain ⟨i2, en2, bad2⟩ := s2
  simp only at j4 hplt
  repeat (first | refine wk hT rfl rfl ?_ | refine wd hT rfl rfl rfl ?_ | refine wz hT rfl ?_ | refine AWd_nil ?_ | refine AWk_nil ?_ | refine wh hT rfl rfl rfl rfl ?_ | refine wg hT rfl rfl rfl rfl rfl ?_ | refine AW_seq ?_ | refine AW_region ?_ | refine wx mixed ?_ | refine AW_block ?_ | refine AW_skip ?_ | refine AW_exit ?_ | refine AW_ret ?_)
  refine AWk_gop rfl rfl rfl (fun hg => ⟨by first | exact True.intro | exact ⟨hg, True.intro⟩, callS1 rfl rfl hpk [0] (by decide) rfl rfl rfl rfl rfl rfl rfl⟩) ?_
  repeat (first | refine wk hT rfl rfl ?_ | refine wd hT rfl rfl rfl ?_ | refine wz hT rfl ?_ | refine AWd_nil ?_ | refine AWk_nil ?_ | refine wh hT rfl rfl rfl rfl ?_ | refine wg hT rfl rfl rfl rfl rfl ?_ | refine AW_seq ?_ | refine AW_region ?_ | refine wx mixed ?_ | refine AW_block ?_ | refine AW_skip ?_ | refine AW_exit ?_ | refine AW_ret ?_)
  refine AW_condL rfl (fun h2 => ?_) (fun h2 => ?_)
  · have h2' : bad2 < 0 ∧ pk = orW := by simpa [andW, orW] using h2
    rw [if_pos h2'] at j5
    have hlt := hplt (by rw [h2'.2]; decide)
    have hlo := j1.lo
    simp only at hlo
    obtain ⟨k1, k2⟩ := j1.more hp hlt (by simp only; omega)
    have hS2 := HS (RS.inc ⟨i2, en2, bad2⟩) (by show i2 + 1 ≤ _; omega) (by show _ - (i2 + 1) < _; omega)
    generalize conjR ws n (RS.inc ⟨i2, en2, bad2⟩) = ps2 at hS2 k1 k2 j5
    obtain ⟨⟨dk, dc, dv, dkids⟩, s3⟩ := ps2
    simp only at hS2 k1 k2 j5
    have hwr : IntKind.i64.wrap ((i2 : Int) + 1) = ((i2 + 1 : Nat) : Int) := by rw [wrap_id (by omega)]; simp
    have hlen := j1.len
    simp only at hlen
    repeat (first | refine wk hT rfl rfl ?_ | refine wd hT rfl rfl rfl ?_ | refine wz hT rfl ?_ | refine AWd_nil ?_ | refine AWk_nil ?_ | refine wh hT rfl rfl rfl rfl ?_ | refine wg hT rfl rfl rfl rfl rfl ?_ | refine AW_seq ?_ | refine AW_region ?_ | refine wx mixed ?_ | refine AW_block ?_ | refine AW_skip ?_ | refine AW_exit ?_ | refine AW_ret ?_)
    refine AWk_op (callS1 rfl rfl hS2 [0] (by decide) (by show [some (AObj.row [_, .d (.int .i64 (IntKind.i64.wrap ((i2 : Int) + 1))), _, _])] = _; rw [hwr]; rfl) rfl rfl (lowH_rsr 0 _ _) (lowH_rsr 0 _ _) (ren_cAV _ _) rfl) rfl ?_
    repeat (first | refine wk hT rfl rfl ?_ | refine wd hT rfl rfl rfl ?_ | refine wz hT rfl ?_ | refine AWd_nil ?_ | refine AWk_nil ?_ | refine wh hT rfl rfl rfl rfl ?_ | refine wg hT rfl rfl rfl rfl rfl ?_ | refine AW_seq ?_ | refine AW_region ?_ | refine wx mixed ?_ | refine AW_block ?_ | refine AW_skip ?_ | refine AW_exit ?_ | refine AW_ret ?_)
    refine AWk_op (append_right (i := 2) hT rfl rfl rfl rfl rfl rfl (by show ((encCs l).length + 1) * (48 + 1) ≤ 140737488355328; rw [encCs_length]; omega)) rfl ?_
    repeat (first | refine wk hT rfl rfl ?_ | refine wd hT rfl rfl rfl ?_ | refine wz hT rfl ?_ | refine AWd_nil ?_ | refine AWk_nil ?_ | refine wh hT rfl rfl rfl rfl ?_ | refine wg hT rfl rfl rfl rfl rfl ?_ | refine AW_seq ?_ | refine AW_region ?_ | refine wx mixed ?_ | refine AW_block ?_ | refine AW_skip ?_ | refine AW_exit ?_ | refine AW_ret ?_)
    refine ⟨(l ++ [.mk dk dc dv dkids], s3), ⟨k1, m, by simp only; omega, j5⟩, by simp only; omega, ⟨.refl _, .refl _, AV.le.eq ?_, trivial⟩, ⟨ObLe.refl _, ObLe.refl _, ⟨rfl, ?_⟩, trivial⟩⟩
    · rw [encCs_append]; rfl
    · rw [encCs_append, List.length_append]; rfl
  · have h2' : ¬ (bad2 < 0 ∧ pk = orW) := by simpa [andW, orW] using h2
    rw [if_neg h2'] at j5
    subst j5
    have hhi := j1.hi; have hll := j1.len; have hff := j1.flat
    simp only at hhi hll hff
    have hj := join_spec 4 l (by omega) (by omega)
    generalize joinR 4 l = jc at hj ⊢
    obtain ⟨jk, jch, jv, jkids⟩ := jc
    repeat (first | refine AW_exit ?_ | refine AW_skip ?_)
    refine AW_subL (l := [(0, .ptr 0 0), (2, .ptr 1 0), (3, .d (.sl 4 (encCs l)))]) (h' := [.row (rsr ws ⟨i2, en2, bad2⟩), .row [.d (.int .i64 0), .d (.int .i64 0), .d (.int .i64 0), .sl 4 [] .full], .dead]) ⟨.refl _, .refl _, AV.le.dat, trivial⟩ ⟨ObLe.refl _, ObLe.refl _, trivial, trivial⟩ ?_
    repeat (first | refine wk hT rfl rfl ?_ | refine wd hT rfl rfl rfl ?_ | refine wz hT rfl ?_ | refine AWd_nil ?_ | refine AWk_nil ?_ | refine wh hT rfl rfl rfl rfl ?_ | refine wg hT rfl rfl rfl rfl rfl ?_ | refine AW_seq ?_ | refine AW_region ?_ | refine wx mixed ?_ | refine AW_block ?_ | refine AW_skip ?_ | refine AW_exit ?_ | refine AW_ret ?_)
    refine AWk_op (callS0 rfl rfl hj rfl rfl rfl) rfl ?_
    repeat (first | refine wk hT rfl rfl ?_ | refine wd hT rfl rfl rfl ?_ | refine wz hT rfl ?_ | refine AWd_nil ?_ | refine AWk_nil ?_ | refine wh hT rfl rfl rfl rfl ?_ | refine wg hT rfl rfl rfl rfl rfl ?_ | refine AW_seq ?_ | refine AW_region ?_ | refine wx mixed ?_ | refine AW_block ?_ | refine AW_skip ?_ | refine AW_exit ?_ | refine AW_ret ?_)
    exact ret_exact (r := cAV (.mk jk jch jv jkids)) rfl (.refl _) rfl rfl rfl rfl ⟨rfl, rfl⟩
end Tdoc
/- The reference's parser: the smallest conditions, and all of them. -/
set_option linter.unusedVariables false
set_option linter.unusedSimpArgs false
namespace Tdoc
open Go Go.Proofs

set_option maxHeartbeats 4000000 in
set_option maxRecDepth 100000 in
theorem atomR_spec {ws : List Wd} (hl : ws.length ≤ 1000000) : ∀ n, n ≤ 1000001 → PSpec ws n 97 (atomR ws n)
  | 0, _ => fun s _ hn => by omega
  | n + 1, hn1 => by
    have ih := atomR_spec hl n (by omega)
    have hc := condR'_spec hl (by omega) (conjR_spec hl (by omega) ih)
    have hcok := condR'_ok ws n
    intro s h hn
    have hpk := peek_spec ws s
    have hfl := fail_spec ws s
    have hplt := peekR_lt (ws := ws) (s := s)
    generalize hres : atomR ws (n + 1) s = res
    unfold atomR at hres
    change (if 0 ≤ s.bad then _ else if peekR ws s = notW then _ else if peekR ws s = lpW then ((condR' ws n s.inc).1, takeR ws (condR' ws n s.inc).2 rpW) else _) = res at hres
    generalize peekR ws s = pk at hpk hplt hres
    generalize failR ws s = sf at hfl hres
    obtain ⟨i, en, bad⟩ := s
    simp only at h hn hplt hres
    have hwr : IntKind.i64.wrap ((i : Int) + 1) = ((i + 1 : Nat) : Int) := by rw [wrap_id (by omega)]; simp
    refine Spec_of_body hT Tryz.func97 rfl rfl rfl rfl ?_
    intro E hE
    repeat (first | refine wk hT rfl rfl ?_ | refine wd hT rfl rfl rfl ?_ | refine wz hT rfl ?_ | refine AWd_nil ?_ | refine AWk_nil ?_ | refine wh hT rfl rfl rfl rfl ?_ | refine wg hT rfl rfl rfl rfl rfl ?_ | refine AW_seq ?_ | refine AW_region ?_ | refine wx mixed ?_ | refine AW_block ?_ | refine AW_skip ?_ | refine AW_exit ?_ | refine AW_ret ?_)
    refine AWk_op (callS1 rfl rfl hpk [0] (by decide) rfl rfl rfl rfl rfl rfl rfl) rfl ?_
    repeat (first | refine wk hT rfl rfl ?_ | refine wd hT rfl rfl rfl ?_ | refine wz hT rfl ?_ | refine AWd_nil ?_ | refine AWk_nil ?_ | refine wh hT rfl rfl rfl rfl ?_ | refine wg hT rfl rfl rfl rfl rfl ?_ | refine AW_seq ?_ | refine AW_region ?_ | refine wx mixed ?_ | refine AW_block ?_ | refine AW_skip ?_ | refine AW_exit ?_ | refine AW_ret ?_)
    refine AW_condL rfl (fun h1 => ?_) (fun h1 => ?_)
    · have h1' : 0 ≤ bad := by simpa using h1
      rw [if_pos h1'] at hres
      repeat (first | refine wk hT rfl rfl ?_ | refine wd hT rfl rfl rfl ?_ | refine wz hT rfl ?_ | refine AWd_nil ?_ | refine AWk_nil ?_ | refine wh hT rfl rfl rfl rfl ?_ | refine wg hT rfl rfl rfl rfl rfl ?_ | refine AW_seq ?_ | refine AW_region ?_ | refine wx mixed ?_ | refine AW_block ?_ | refine AW_skip ?_ | refine AW_exit ?_ | refine AW_ret ?_)
      subst hres
      exact ret_exact (r := cAV (.mk 0 0 0 [])) rfl (AV.le.agg ⟨.refl _, .refl _, .refl _, AV.le.dat, trivial⟩) rfl rfl rfl rfl ⟨rfl, rfl⟩
    · have h1' : ¬ 0 ≤ bad := by simpa using h1
      rw [if_neg h1'] at hres
      repeat (first | refine wk hT rfl rfl ?_ | refine wd hT rfl rfl rfl ?_ | refine wz hT rfl ?_ | refine AWd_nil ?_ | refine AWk_nil ?_ | refine wh hT rfl rfl rfl rfl ?_ | refine wg hT rfl rfl rfl rfl rfl ?_ | refine AW_seq ?_ | refine AW_region ?_ | refine wx mixed ?_ | refine AW_block ?_ | refine AW_skip ?_ | refine AW_exit ?_ | refine AW_ret ?_)
      refine AW_condL rfl (fun h2 => ?_) (fun h2 => ?_)
      · have h2' : pk = notW := by simpa [notW] using h2
        rw [if_pos h2'] at hres
        have hlt := hplt (by rw [h2']; decide)
        have hS := ih (RS.inc ⟨i, en, bad⟩) (by show i + 1 ≤ _; omega) (by show _ - (i + 1) < _; omega)
        generalize atomR ws n (RS.inc ⟨i, en, bad⟩) = r at hS hres
        obtain ⟨⟨k, c, v, kids⟩, s2⟩ := r
        repeat (first | refine wk hT rfl rfl ?_ | refine wd hT rfl rfl rfl ?_ | refine wz hT rfl ?_ | refine AWd_nil ?_ | refine AWk_nil ?_ | refine wh hT rfl rfl rfl rfl ?_ | refine wg hT rfl rfl rfl rfl rfl ?_ | refine AW_seq ?_ | refine AW_region ?_ | refine wx mixed ?_ | refine AW_block ?_ | refine AW_skip ?_ | refine AW_exit ?_ | refine AW_ret ?_)
        refine AWk_op (callS1 rfl rfl hS [0] (by decide) (by show [some (AObj.row [_, .d (.int .i64 (IntKind.i64.wrap ((i : Int) + 1))), _, _])] = _; rw [hwr]; rfl) rfl rfl (lowH_rsr 0 _ _) (lowH_rsr 0 _ _) (ren_cAV _ _) rfl) rfl ?_
        repeat (first | refine wk hT rfl rfl ?_ | refine wd hT rfl rfl rfl ?_ | refine wz hT rfl ?_ | refine AWd_nil ?_ | refine AWk_nil ?_ | refine wh hT rfl rfl rfl rfl ?_ | refine wg hT rfl rfl rfl rfl rfl ?_ | refine AW_seq ?_ | refine AW_region ?_ | refine wx mixed ?_ | refine AW_block ?_ | refine AW_skip ?_ | refine AW_exit ?_ | refine AW_ret ?_)
        subst hres
        exact ret_exact (r := cAV (.mk 2 0 0 [.mk k c v kids])) rfl (AV.le.agg ⟨.refl _, .refl _, .refl _, AV.le.dat, trivial⟩) rfl rfl rfl (lowH_rsr _ _ _) ⟨rfl, rfl⟩
      · have h2' : ¬ pk = notW := by simpa [notW] using h2
        rw [if_neg h2'] at hres
        repeat (first | refine wk hT rfl rfl ?_ | refine wd hT rfl rfl rfl ?_ | refine wz hT rfl ?_ | refine AWd_nil ?_ | refine AWk_nil ?_ | refine wh hT rfl rfl rfl rfl ?_ | refine wg hT rfl rfl rfl rfl rfl ?_ | refine AW_seq ?_ | refine AW_region ?_ | refine wx mixed ?_ | refine AW_block ?_ | refine AW_skip ?_ | refine AW_exit ?_ | refine AW_ret ?_)
        refine AW_condL rfl (fun h3 => ?_) (fun h3 => ?_)
        · have h3' : pk = lpW := by simpa [lpW] using h3
          rw [if_pos h3'] at hres
          have hlt := hplt (by rw [h3']; decide)
          have hS := hc (RS.inc ⟨i, en, bad⟩) (by show i + 1 ≤ _; omega) (by show _ - (i + 1) < _; omega)
          obtain ⟨q1, q2, q3⟩ := hcok.inv (RS.inc ⟨i, en, bad⟩) (by show i + 1 ≤ _; omega) (by show _ - (i + 1) < _; omega)
          generalize condR' ws n (RS.inc ⟨i, en, bad⟩) = r at hS q1 q2 q3 hres
          obtain ⟨⟨k, c, v, kids⟩, s2⟩ := r
          simp only at hS q1 q2 q3 hres
          have htake := take_spec ws s2 rpW (by omega)
          generalize takeR ws s2 rpW = s3 at htake hres
          repeat (first | refine wk hT rfl rfl ?_ | refine wd hT rfl rfl rfl ?_ | refine wz hT rfl ?_ | refine AWd_nil ?_ | refine AWk_nil ?_ | refine wh hT rfl rfl rfl rfl ?_ | refine wg hT rfl rfl rfl rfl rfl ?_ | refine AW_seq ?_ | refine AW_region ?_ | refine wx mixed ?_ | refine AW_block ?_ | refine AW_skip ?_ | refine AW_exit ?_ | refine AW_ret ?_)
          refine AWk_op (callS1 rfl rfl hS [0] (by decide) (by show [some (AObj.row [_, .d (.int .i64 (IntKind.i64.wrap ((i : Int) + 1))), _, _])] = _; rw [hwr]; rfl) rfl rfl (lowH_rsr 0 _ _) (lowH_rsr 0 _ _) (ren_cAV _ _) rfl) rfl ?_
          repeat (first | refine wk hT rfl rfl ?_ | refine wd hT rfl rfl rfl ?_ | refine wz hT rfl ?_ | refine AWd_nil ?_ | refine AWk_nil ?_ | refine wh hT rfl rfl rfl rfl ?_ | refine wg hT rfl rfl rfl rfl rfl ?_ | refine AW_seq ?_ | refine AW_region ?_ | refine wx mixed ?_ | refine AW_block ?_ | refine AW_skip ?_ | refine AW_exit ?_ | refine AW_ret ?_)
          refine AWk_op (callS1 rfl rfl htake [0] (by decide) rfl rfl rfl (lowH_rsr 0 _ _) (lowH_rsr 0 _ _) rfl rfl) rfl ?_
          repeat (first | refine wk hT rfl rfl ?_ | refine wd hT rfl rfl rfl ?_ | refine wz hT rfl ?_ | refine AWd_nil ?_ | refine AWk_nil ?_ | refine wh hT rfl rfl rfl rfl ?_ | refine wg hT rfl rfl rfl rfl rfl ?_ | refine AW_seq ?_ | refine AW_region ?_ | refine wx mixed ?_ | refine AW_block ?_ | refine AW_skip ?_ | refine AW_exit ?_ | refine AW_ret ?_)
          subst hres
          exact ret_exact (r := cAV (.mk k c v kids)) rfl (.refl _) rfl rfl rfl (lowH_rsr _ _ _) ⟨rfl, rfl⟩
        · have h3' : ¬ pk = lpW := by simpa [lpW] using h3
          rw [if_neg h3'] at hres
          have hfb := sIdx_bound chk pk
          repeat (first | refine wk hT rfl rfl ?_ | refine wd hT rfl rfl rfl ?_ | refine wz hT rfl ?_ | refine AWd_nil ?_ | refine AWk_nil ?_ | refine wh hT rfl rfl rfl rfl ?_ | refine wg hT rfl rfl rfl rfl rfl ?_ | refine AW_seq ?_ | refine AW_region ?_ | refine wx mixed ?_ | refine AW_block ?_ | refine AW_skip ?_ | refine AW_exit ?_ | refine AW_ret ?_)
          refine AWk_op (callS0 rfl rfl checks_spec rfl rfl rfl) rfl ?_
          repeat (first | refine wk hT rfl rfl ?_ | refine wd hT rfl rfl rfl ?_ | refine wz hT rfl ?_ | refine AWd_nil ?_ | refine AWk_nil ?_ | refine wh hT rfl rfl rfl rfl ?_ | refine wg hT rfl rfl rfl rfl rfl ?_ | refine AW_seq ?_ | refine AW_region ?_ | refine wx mixed ?_ | refine AW_block ?_ | refine AW_skip ?_ | refine AW_exit ?_ | refine AW_ret ?_)
          refine AWk_op (callS0 rfl rfl (find_spec [] chk pk (by decide)) rfl rfl rfl) rfl ?_
          repeat (first | refine wk hT rfl rfl ?_ | refine wd hT rfl rfl rfl ?_ | refine wz hT rfl ?_ | refine AWd_nil ?_ | refine AWk_nil ?_ | refine wh hT rfl rfl rfl rfl ?_ | refine wg hT rfl rfl rfl rfl rfl ?_ | refine AW_seq ?_ | refine AW_region ?_ | refine wx mixed ?_ | refine AW_block ?_ | refine AW_skip ?_ | refine AW_exit ?_ | refine AW_ret ?_)
          refine AW_condL rfl (fun h4 => ?_) (fun h4 => ?_)
          · have h4' : sIdx chk pk + 1 = 0 := by simpa using h4
            rw [if_pos h4'] at hres
            repeat (first | refine wk hT rfl rfl ?_ | refine wd hT rfl rfl rfl ?_ | refine wz hT rfl ?_ | refine AWd_nil ?_ | refine AWk_nil ?_ | refine wh hT rfl rfl rfl rfl ?_ | refine wg hT rfl rfl rfl rfl rfl ?_ | refine AW_seq ?_ | refine AW_region ?_ | refine wx mixed ?_ | refine AW_block ?_ | refine AW_skip ?_ | refine AW_exit ?_ | refine AW_ret ?_)
            refine AWk_op (callS1 rfl rfl hfl [0] (by decide) rfl rfl rfl (lowH_rsr 0 _ _) (lowH_rsr 0 _ _) rfl rfl) rfl ?_
            repeat (first | refine wk hT rfl rfl ?_ | refine wd hT rfl rfl rfl ?_ | refine wz hT rfl ?_ | refine AWd_nil ?_ | refine AWk_nil ?_ | refine wh hT rfl rfl rfl rfl ?_ | refine wg hT rfl rfl rfl rfl rfl ?_ | refine AW_seq ?_ | refine AW_region ?_ | refine wx mixed ?_ | refine AW_block ?_ | refine AW_skip ?_ | refine AW_exit ?_ | refine AW_ret ?_)
            subst hres
            exact ret_exact (r := cAV (.mk 0 0 0 [])) rfl (AV.le.agg ⟨.refl _, .refl _, .refl _, AV.le.dat, trivial⟩) rfl rfl rfl (lowH_rsr _ _ _) ⟨rfl, rfl⟩
          · have h4' : ¬ sIdx chk pk + 1 = 0 := by simpa using h4
            rw [if_neg h4'] at hres
            have hlt := hplt (by intro hz; rw [hz] at h4'; exact h4' (by decide))
            have hpk1 := peek_spec ws (RS.inc ⟨i, en, bad⟩)
            have hplt1 := peekR_lt (ws := ws) (s := RS.inc ⟨i, en, bad⟩)
            generalize peekR ws (RS.inc ⟨i, en, bad⟩) = pk1 at hpk1 hplt1 hres
            repeat (first | refine AW_exit ?_ | refine AW_skip ?_)
            repeat (first | refine wk hT rfl rfl ?_ | refine wd hT rfl rfl rfl ?_ | refine wz hT rfl ?_ | refine AWd_nil ?_ | refine AWk_nil ?_ | refine wh hT rfl rfl rfl rfl ?_ | refine wg hT rfl rfl rfl rfl rfl ?_ | refine AW_seq ?_ | refine AW_region ?_ | refine wx mixed ?_ | refine AW_block ?_ | refine AW_skip ?_ | refine AW_exit ?_ | refine AW_ret ?_)
            refine AWk_op (callS0 rfl rfl checks_spec rfl rfl rfl) rfl ?_
            repeat (first | refine wk hT rfl rfl ?_ | refine wd hT rfl rfl rfl ?_ | refine wz hT rfl ?_ | refine AWd_nil ?_ | refine AWk_nil ?_ | refine wh hT rfl rfl rfl rfl ?_ | refine wg hT rfl rfl rfl rfl rfl ?_ | refine AW_seq ?_ | refine AW_region ?_ | refine wx mixed ?_ | refine AW_block ?_ | refine AW_skip ?_ | refine AW_exit ?_ | refine AW_ret ?_)
            refine AWk_op (callS0 rfl rfl (find_spec [] chk pk (by decide)) rfl rfl rfl) rfl ?_
            repeat (first | refine wk hT rfl rfl ?_ | refine wd hT rfl rfl rfl ?_ | refine wz hT rfl ?_ | refine AWd_nil ?_ | refine AWk_nil ?_ | refine wh hT rfl rfl rfl rfl ?_ | refine wg hT rfl rfl rfl rfl rfl ?_ | refine AW_seq ?_ | refine AW_region ?_ | refine wx mixed ?_ | refine AW_block ?_ | refine AW_skip ?_ | refine AW_exit ?_ | refine AW_ret ?_)
            refine AWk_op (callS1 rfl rfl hpk1 [0] (by decide) (by show [some (AObj.row [_, .d (.int .i64 (IntKind.i64.wrap ((i : Int) + 1))), _, _])] = _; rw [hwr]; rfl) rfl rfl rfl rfl rfl rfl) rfl ?_
            repeat (first | refine wk hT rfl rfl ?_ | refine wd hT rfl rfl rfl ?_ | refine wz hT rfl ?_ | refine AWd_nil ?_ | refine AWk_nil ?_ | refine wh hT rfl rfl rfl rfl ?_ | refine wg hT rfl rfl rfl rfl rfl ?_ | refine AW_seq ?_ | refine AW_region ?_ | refine wx mixed ?_ | refine AW_block ?_ | refine AW_skip ?_ | refine AW_exit ?_ | refine AW_ret ?_)
            refine AW_condL rfl (fun h5 => ?_) (fun h5 => ?_)
            · have h5' : pk1 = isW := by simpa [isW] using h5
              rw [if_pos h5'] at hres
              have hlt1 : i + 1 < ws.length := hplt1 (by rw [h5']; decide)
              have hwr2 : IntKind.i64.wrap (((i + 1 : Nat) : Int) + 1) = ((i + 1 + 1 : Nat) : Int) := by rw [wrap_id (by omega)]; simp
              have hpk2 := peek_spec ws (RS.inc (RS.inc ⟨i, en, bad⟩))
              have hfl2 := fail_spec ws (RS.inc (RS.inc ⟨i, en, bad⟩))
              have hfi := failR_i ws (RS.inc (RS.inc ⟨i, en, bad⟩))
              generalize peekR ws (RS.inc (RS.inc ⟨i, en, bad⟩)) = pk2 at hpk2 hres
              generalize failR ws (RS.inc (RS.inc ⟨i, en, bad⟩)) = f at hfl2 hfi hres
              obtain ⟨fi, fen, fbad⟩ := f
              have hfi' : fi = i + 1 + 1 := hfi
              subst hfi'
              have hwr3 : IntKind.i64.wrap (((i + 1 + 1 : Nat) : Int) + 1) = ((i + 1 + 1 + 1 : Nat) : Int) := by rw [wrap_id (by omega)]; simp
              repeat (first | refine wk hT rfl rfl ?_ | refine wd hT rfl rfl rfl ?_ | refine wz hT rfl ?_ | refine AWd_nil ?_ | refine AWk_nil ?_ | refine wh hT rfl rfl rfl rfl ?_ | refine wg hT rfl rfl rfl rfl rfl ?_ | refine AW_seq ?_ | refine AW_region ?_ | refine wx mixed ?_ | refine AW_block ?_ | refine AW_skip ?_ | refine AW_exit ?_ | refine AW_ret ?_)
              refine AWk_op (callS0 rfl rfl values_spec rfl rfl rfl) rfl ?_
              repeat (first | refine wk hT rfl rfl ?_ | refine wd hT rfl rfl rfl ?_ | refine wz hT rfl ?_ | refine AWd_nil ?_ | refine AWk_nil ?_ | refine wh hT rfl rfl rfl rfl ?_ | refine wg hT rfl rfl rfl rfl rfl ?_ | refine AW_seq ?_ | refine AW_region ?_ | refine wx mixed ?_ | refine AW_block ?_ | refine AW_skip ?_ | refine AW_exit ?_ | refine AW_ret ?_)
              refine AWk_op (callS1 rfl rfl hpk2 [0] (by decide) (by show [some (AObj.row [_, .d (.int .i64 (IntKind.i64.wrap (((i + 1 : Nat) : Int) + 1))), _, _])] = _; rw [hwr2]; rfl) rfl rfl rfl rfl rfl rfl) rfl ?_
              refine AWk_op (callS0 rfl rfl (find_spec [] vls pk2 (by decide)) rfl rfl rfl) rfl ?_
              repeat (first | refine wk hT rfl rfl ?_ | refine wd hT rfl rfl rfl ?_ | refine wz hT rfl ?_ | refine AWd_nil ?_ | refine AWk_nil ?_ | refine wh hT rfl rfl rfl rfl ?_ | refine wg hT rfl rfl rfl rfl rfl ?_ | refine AW_seq ?_ | refine AW_region ?_ | refine wx mixed ?_ | refine AW_block ?_ | refine AW_skip ?_ | refine AW_exit ?_ | refine AW_ret ?_)
              refine AW_condL rfl (fun h6 => ?_) (fun h6 => ?_)
              · have h6' : sIdx vls pk2 + 1 = 0 := by simpa using h6
                rw [if_pos h6'] at hres
                repeat (first | refine wk hT rfl rfl ?_ | refine wd hT rfl rfl rfl ?_ | refine wz hT rfl ?_ | refine AWd_nil ?_ | refine AWk_nil ?_ | refine wh hT rfl rfl rfl rfl ?_ | refine wg hT rfl rfl rfl rfl rfl ?_ | refine AW_seq ?_ | refine AW_region ?_ | refine wx mixed ?_ | refine AW_block ?_ | refine AW_skip ?_ | refine AW_exit ?_ | refine AW_ret ?_)
                refine AWk_op (callS1 rfl rfl hfl2 [0] (by decide) rfl rfl rfl (lowH_rsr 0 _ _) (lowH_rsr 0 _ _) rfl rfl) rfl ?_
                repeat (first | refine wk hT rfl rfl ?_ | refine wd hT rfl rfl rfl ?_ | refine wz hT rfl ?_ | refine AWd_nil ?_ | refine AWk_nil ?_ | refine wh hT rfl rfl rfl rfl ?_ | refine wg hT rfl rfl rfl rfl rfl ?_ | refine AW_seq ?_ | refine AW_region ?_ | refine wx mixed ?_ | refine AW_block ?_ | refine AW_skip ?_ | refine AW_exit ?_ | refine AW_ret ?_)
                subst hres
                refine ret_exact (r := cAV (.mk 1 (sIdx chk pk + 1) (sIdx vls pk2 + 1) [])) rfl (AV.le.agg ⟨.refl _, .refl _, .refl _, AV.le.dat, trivial⟩) rfl rfl rfl rfl ⟨rfl, ?_⟩
                show [AObj.row [_, .d (.int .i64 (IntKind.i64.wrap (((i + 1 + 1 : Nat) : Int) + 1))), _, _]] = _
                rw [hwr3]; rfl
              · have h6' : ¬ sIdx vls pk2 + 1 = 0 := by simpa using h6
                rw [if_neg h6'] at hres
                repeat (first | refine wk hT rfl rfl ?_ | refine wd hT rfl rfl rfl ?_ | refine wz hT rfl ?_ | refine AWd_nil ?_ | refine AWk_nil ?_ | refine wh hT rfl rfl rfl rfl ?_ | refine wg hT rfl rfl rfl rfl rfl ?_ | refine AW_seq ?_ | refine AW_region ?_ | refine wx mixed ?_ | refine AW_block ?_ | refine AW_skip ?_ | refine AW_exit ?_ | refine AW_ret ?_)
                subst hres
                refine ret_exact (r := cAV (.mk 1 (sIdx chk pk + 1) (sIdx vls pk2 + 1) [])) rfl (AV.le.agg ⟨.refl _, .refl _, .refl _, AV.le.dat, trivial⟩) rfl rfl rfl rfl ⟨rfl, ?_⟩
                show [AObj.row [_, .d (.int .i64 (IntKind.i64.wrap (((i + 1 + 1 : Nat) : Int) + 1))), _, _]] = _
                rw [hwr3]; rfl
            · have h5' : ¬ pk1 = isW := by simpa [isW] using h5
              rw [if_neg h5'] at hres
              repeat (first | refine wk hT rfl rfl ?_ | refine wd hT rfl rfl rfl ?_ | refine wz hT rfl ?_ | refine AWd_nil ?_ | refine AWk_nil ?_ | refine wh hT rfl rfl rfl rfl ?_ | refine wg hT rfl rfl rfl rfl rfl ?_ | refine AW_seq ?_ | refine AW_region ?_ | refine wx mixed ?_ | refine AW_block ?_ | refine AW_skip ?_ | refine AW_exit ?_ | refine AW_ret ?_)
              subst hres
              exact ret_exact (r := cAV (.mk 1 (sIdx chk pk + 1) 1 [])) rfl (AV.le.agg ⟨.refl _, .refl _, .refl _, AV.le.dat, trivial⟩) rfl rfl rfl rfl ⟨rfl, rfl⟩

theorem condAll_spec {ws : List Wd} (hl : ws.length ≤ 1000000) {n : Nat} (hn : n ≤ 1000001) : PSpec ws n 57 (condR' ws n) :=
  condR'_spec hl hn (conjR_spec hl hn (atomR_spec hl n hn))
end Tdoc
/- The reference: a condition and a policy are the same as themselves. -/
set_option linter.unusedVariables false
set_option linter.unusedSimpArgs false
namespace Tdoc
open Go Go.Proofs

end Tdoc
/- The reference: which conditions and policies are valid. -/
set_option linter.unusedVariables false
set_option linter.unusedSimpArgs false
namespace Tdoc
open Go Go.Proofs

def zeroC : Cond → Bool
  | .mk k c v kids => decide (k = 0) && decide (c = 0) && decide (v = 0) && decide (kids.length = 0)

set_option maxHeartbeats 4000000 in
set_option maxRecDepth 100000 in
theorem zero_spec (c : Cond) : Spec Tryz.prog 62 [cAV c] [] (fun r h' => r = .d (.bool (zeroC c)) ∧ h' = []) := by
  obtain ⟨k, c, v, kids⟩ := c
  have hlen := encCs_length kids
  have hz0 : (((encCs kids).length : Int) == 0) = decide (kids.length = 0) := by rw [hlen, Bool.eq_iff_iff]; simp
  refine Spec_of_body hT Tryz.func62 rfl rfl rfl rfl ?_
  intro E hE
  repeat (first | refine wk hT rfl rfl ?_ | refine wd hT rfl rfl rfl ?_ | refine wz hT rfl ?_ | refine AWd_nil ?_ | refine AWk_nil ?_ | refine wh hT rfl rfl rfl rfl ?_ | refine wg hT rfl rfl rfl rfl rfl ?_ | refine AW_seq ?_ | refine AW_region ?_ | refine wx mixed ?_ | refine AW_block ?_ | refine AW_skip ?_ | refine AW_exit ?_ | refine AW_ret ?_)
  refine ret_exact rfl (.refl _) rfl rfl rfl rfl ⟨congrArg (fun b => AV.d (.bool b)) ?_, rfl⟩
  rw [zeroC, ← hz0]; rfl

theorem validC_one (d : Nat) (c v : Int) (kids : List Cond) : validC (d + 1) (.mk 2 c v kids) = (decide (c = 0) && decide (v = 0) && decide (kids.length = 1) && !(kids.any fun x => !validC d x)) := by
  rw [validC]
  by_cases hc : c = 0 <;> by_cases hv : v = 0 <;> simp [hc, hv]

set_option maxHeartbeats 8000000 in
set_option maxRecDepth 100000 in
theorem good_spec : ∀ (d : Nat) (c : Cond), d ≤ 1000 → smallC c → Spec Tryz.prog 63 [cAV c, .d (.int .i64 d)] [] (fun r h' => r = .d (.bool (validC d c)) ∧ h' = [])
  | 0, .mk k c v kids, hd, hs => by
    refine Spec_of_body hT Tryz.func63 rfl rfl rfl rfl ?_
    intro E hE
    repeat (first | refine wk hT rfl rfl ?_ | refine wd hT rfl rfl rfl ?_ | refine wz hT rfl ?_ | refine AWd_nil ?_ | refine AWk_nil ?_ | refine wh hT rfl rfl rfl rfl ?_ | refine wg hT rfl rfl rfl rfl rfl ?_ | refine AW_seq ?_ | refine AW_region ?_ | refine wx mixed ?_ | refine AW_block ?_ | refine AW_skip ?_ | refine AW_exit ?_ | refine AW_ret ?_)
    refine AW_condL rfl (fun _ => ?_) (fun hf => by simp at hf)
    repeat (first | refine wk hT rfl rfl ?_ | refine wd hT rfl rfl rfl ?_ | refine wz hT rfl ?_ | refine AWd_nil ?_ | refine AWk_nil ?_ | refine wh hT rfl rfl rfl rfl ?_ | refine wg hT rfl rfl rfl rfl rfl ?_ | refine AW_seq ?_ | refine AW_region ?_ | refine wx mixed ?_ | refine AW_block ?_ | refine AW_skip ?_ | refine AW_exit ?_ | refine AW_ret ?_)
    exact ret_exact rfl (.refl _) rfl rfl rfl rfl ⟨rfl, rfl⟩
  | d + 1, .mk k c v kids, hd, hs => by
    have ih : ∀ x, x ∈ kids → Spec Tryz.prog 63 [cAV x, .d (.int .i64 d)] [] (fun r h' => r = .d (.bool (validC d x)) ∧ h' = []) := fun x hx => good_spec d x (by omega) (smallCs_at hs.2 x hx)
    have hlen := encCs_length kids
    have hs1 := hs.1
    have hw : IntKind.i64.wrap (((d + 1 : Nat) : Int) - 1) = (d : Int) := by rw [wrap_id (by omega)]; omega
    refine Spec_of_body hT Tryz.func63 rfl rfl rfl rfl ?_
    intro E hE
    have hz0 : (((encCs kids).length : Int) == 0) = decide (kids.length = 0) := by rw [hlen, Bool.eq_iff_iff]; simp
    have hz1 : (((encCs kids).length : Int) == 1) = decide (kids.length = 1) := by rw [hlen, Bool.eq_iff_iff]; simp; omega
    repeat (first | refine wk hT rfl rfl ?_ | refine wd hT rfl rfl rfl ?_ | refine wz hT rfl ?_ | refine AWd_nil ?_ | refine AWk_nil ?_ | refine wh hT rfl rfl rfl rfl ?_ | refine wg hT rfl rfl rfl rfl rfl ?_ | refine AW_seq ?_ | refine AW_region ?_ | refine wx mixed ?_ | refine AW_block ?_ | refine AW_skip ?_ | refine AW_exit ?_ | refine AW_ret ?_)
    refine AW_condL rfl (fun hf => by simp at hf; omega) (fun _ => ?_)
    repeat (first | refine wk hT rfl rfl ?_ | refine wd hT rfl rfl rfl ?_ | refine wz hT rfl ?_ | refine AWd_nil ?_ | refine AWk_nil ?_ | refine wh hT rfl rfl rfl rfl ?_ | refine wg hT rfl rfl rfl rfl rfl ?_ | refine AW_seq ?_ | refine AW_region ?_ | refine wx mixed ?_ | refine AW_block ?_ | refine AW_skip ?_ | refine AW_exit ?_ | refine AW_ret ?_)
    refine AW_condL rfl (fun hk => ?_) (fun hk => ?_)
    · have hk' : k = 1 := by simpa using hk
      repeat (first | refine wk hT rfl rfl ?_ | refine wd hT rfl rfl rfl ?_ | refine wz hT rfl ?_ | refine AWd_nil ?_ | refine AWk_nil ?_ | refine wh hT rfl rfl rfl rfl ?_ | refine wg hT rfl rfl rfl rfl rfl ?_ | refine AW_seq ?_ | refine AW_region ?_ | refine wx mixed ?_ | refine AW_block ?_ | refine AW_skip ?_ | refine AW_exit ?_ | refine AW_ret ?_)
      refine ret_exact rfl (.refl _) rfl rfl rfl rfl ⟨congrArg (fun b => AV.d (.bool b)) ?_, rfl⟩
      rw [validC, if_pos hk', ← hz0]
    · have hk1 : ¬ k = 1 := by simpa using hk
      repeat (first | refine wk hT rfl rfl ?_ | refine wd hT rfl rfl rfl ?_ | refine wz hT rfl ?_ | refine AWd_nil ?_ | refine AWk_nil ?_ | refine wh hT rfl rfl rfl rfl ?_ | refine wg hT rfl rfl rfl rfl rfl ?_ | refine AW_seq ?_ | refine AW_region ?_ | refine wx mixed ?_ | refine AW_block ?_ | refine AW_skip ?_ | refine AW_exit ?_ | refine AW_ret ?_)
      refine AW_condL rfl (fun h3 => ?_) (fun h3 => ?_)
      · have hk2 : k = 2 := by simpa using h3
        subst hk2
        rw [validC_one, ← hz1]
        cases kids with
        | nil =>
          repeat (first | refine wk hT rfl rfl ?_ | refine wd hT rfl rfl rfl ?_ | refine wz hT rfl ?_ | refine AWd_nil ?_ | refine AWk_nil ?_ | refine wh hT rfl rfl rfl rfl ?_ | refine wg hT rfl rfl rfl rfl rfl ?_ | refine AW_seq ?_ | refine AW_region ?_ | refine wx mixed ?_ | refine AW_block ?_ | refine AW_skip ?_ | refine AW_exit ?_ | refine AW_ret ?_)
          refine AWk_gop (v := .any) rfl rfl rfl (fun hg => absurd hg (by simp [encCs, gval])) ?_
          refine AWk_gop (v := .any) rfl rfl rfl (fun hg => absurd hg (by simp [encCs, gval])) ?_
          repeat (first | refine wk hT rfl rfl ?_ | refine wd hT rfl rfl rfl ?_ | refine wz hT rfl ?_ | refine AWd_nil ?_ | refine AWk_nil ?_ | refine wh hT rfl rfl rfl rfl ?_ | refine wg hT rfl rfl rfl rfl rfl ?_ | refine AW_seq ?_ | refine AW_region ?_ | refine wx mixed ?_ | refine AW_block ?_ | refine AW_skip ?_ | refine AW_exit ?_ | refine AW_ret ?_)
          refine AWk_gop (v := .d (.bool true)) rfl rfl rfl (fun hg => absurd hg (by simp [encCs, gval])) ?_
          repeat (first | refine wk hT rfl rfl ?_ | refine wd hT rfl rfl rfl ?_ | refine wz hT rfl ?_ | refine AWd_nil ?_ | refine AWk_nil ?_ | refine wh hT rfl rfl rfl rfl ?_ | refine wg hT rfl rfl rfl rfl rfl ?_ | refine AW_seq ?_ | refine AW_region ?_ | refine wx mixed ?_ | refine AW_block ?_ | refine AW_skip ?_ | refine AW_exit ?_ | refine AW_ret ?_)
          refine ret_exact rfl (.refl _) rfl rfl rfl rfl ⟨congrArg (fun b => AV.d (.bool b)) ?_, rfl⟩
          simp [encCs]
        | cons x rest =>
          have hx := ih x (List.mem_cons_self)
          have hel : (encCs (x :: rest))[((0 : Int)).toNat]? = some (encC x) := by simp [encCs]
          have hany : (kids : Bool) → (((encCs (x :: rest)).length : Int) == 1) = true → ((x :: rest).any fun x => !validC d x) = !validC d x := by
            intro _ h1
            rw [hz1] at h1
            have : rest = [] := by simpa using h1
            rw [this]; simp
          generalize validC d x = b at hx hany
          obtain ⟨xk, xc, xv, xkids⟩ := x
          repeat (first | refine wk hT rfl rfl ?_ | refine wd hT rfl rfl rfl ?_ | refine wz hT rfl ?_ | refine AWd_nil ?_ | refine AWk_nil ?_ | refine wh hT rfl rfl rfl rfl ?_ | refine wg hT rfl rfl rfl rfl rfl ?_ | refine AW_seq ?_ | refine AW_region ?_ | refine wx mixed ?_ | refine AW_block ?_ | refine AW_skip ?_ | refine AW_exit ?_ | refine AW_ret ?_)
          refine AWk_gop rfl rfl rfl (fun hg => ⟨by first | exact True.intro | exact ⟨hg, True.intro⟩ | exact ⟨hg, hg, True.intro⟩, OpS_of_pure (indexAddr_ok hT rfl rfl rfl rfl (by decide) hel)⟩) ?_
          repeat (first | refine wk hT rfl rfl ?_ | refine wd hT rfl rfl rfl ?_ | refine wz hT rfl ?_ | refine AWd_nil ?_ | refine AWk_nil ?_ | refine wh hT rfl rfl rfl rfl ?_ | refine wg hT rfl rfl rfl rfl rfl ?_ | refine AW_seq ?_ | refine AW_region ?_ | refine wx mixed ?_ | refine AW_block ?_ | refine AW_skip ?_ | refine AW_exit ?_ | refine AW_ret ?_)
          rw [hw]
          refine AWk_gop rfl rfl rfl (fun hg => ⟨by first | exact True.intro | exact ⟨hg, True.intro⟩ | exact ⟨hg, hg, True.intro⟩, callS0 rfl rfl hx rfl rfl rfl⟩) ?_
          repeat (first | refine wk hT rfl rfl ?_ | refine wd hT rfl rfl rfl ?_ | refine wz hT rfl ?_ | refine AWd_nil ?_ | refine AWk_nil ?_ | refine wh hT rfl rfl rfl rfl ?_ | refine wg hT rfl rfl rfl rfl rfl ?_ | refine AW_seq ?_ | refine AW_region ?_ | refine wx mixed ?_ | refine AW_block ?_ | refine AW_skip ?_ | refine AW_exit ?_ | refine AW_ret ?_)
          refine ret_exact rfl (.refl _) rfl rfl rfl rfl ⟨congrArg (fun b => AV.d (.bool b)) ?_, rfl⟩
          cases hq : (((encCs ((Cond.mk xk xc xv xkids) :: rest)).length : Int) == 1) with
          | false => simp
          | true => rw [hany true hq]; simp; rfl
      · have hk2 : ¬ k = 2 := by simpa using h3
        have hl2 : decide (((encCs kids).length : Int) < 2) = decide (kids.length < 2) := by rw [hlen, Bool.eq_iff_iff]; simp; omega
        refine AW_seq_cut (ι := Unit) (fun _ => [(1, .d (.int .i64 ((d + 1 : Nat) : Int))), (2, .ptr 0 0), (61, .d (.bool (decide (k = 3 ∨ k = 4))))]) (fun _ => [.row [.d (.int .i64 k), .d (.int .i64 c), .d (.int .i64 v), .d (.sl 4 (encCs kids))]]) (fun _ => True) ?_ ?_
        · repeat (first | refine wk hT rfl rfl ?_ | refine wd hT rfl rfl rfl ?_ | refine wz hT rfl ?_ | refine AWd_nil ?_ | refine AWk_nil ?_ | refine wh hT rfl rfl rfl rfl ?_ | refine wg hT rfl rfl rfl rfl rfl ?_ | refine AW_seq ?_ | refine AW_region ?_ | refine wx mixed ?_ | refine AW_block ?_ | refine AW_skip ?_ | refine AW_exit ?_ | refine AW_ret ?_)
          refine AW_condL rfl (fun h4 => ?_) (fun h4 => ?_)
          · have h4' : k = 3 := by simpa using h4
            repeat (first | refine AW_exit ?_ | refine AW_skip ?_)
            exact ⟨(), trivial, ⟨.refl _, .refl _, AV.le.eq (by show AV.d (.bool (k == 3)) = _; rw [h4]; simp [h4']), trivial⟩, HLe.refl _⟩
          · have h4' : ¬ k = 3 := by simpa using h4
            repeat (first | refine wk hT rfl rfl ?_ | refine wd hT rfl rfl rfl ?_ | refine wz hT rfl ?_ | refine AWd_nil ?_ | refine AWk_nil ?_ | refine wh hT rfl rfl rfl rfl ?_ | refine wg hT rfl rfl rfl rfl rfl ?_ | refine AW_seq ?_ | refine AW_region ?_ | refine wx mixed ?_ | refine AW_block ?_ | refine AW_skip ?_ | refine AW_exit ?_ | refine AW_ret ?_)
            exact ⟨(), trivial, ⟨.refl _, .refl _, AV.le.eq (by show AV.d (.bool (k == 4)) = _; by_cases hk4 : k = 4 <;> simp [hk4, h4']), trivial⟩, HLe.refl _⟩
        · intro _ _
          refine AW_condL rfl (fun h4 => ?_) (fun h4 => ?_)
          · have hk34 : k = 3 ∨ k = 4 := by simpa using h4
            repeat (first | refine wk hT rfl rfl ?_ | refine wd hT rfl rfl rfl ?_ | refine wz hT rfl ?_ | refine AWd_nil ?_ | refine AWk_nil ?_ | refine wh hT rfl rfl rfl rfl ?_ | refine wg hT rfl rfl rfl rfl rfl ?_ | refine AW_seq ?_ | refine AW_region ?_ | refine wx mixed ?_ | refine AW_block ?_ | refine AW_skip ?_ | refine AW_exit ?_ | refine AW_ret ?_)
            refine AW_condL rfl (fun h5 => ?_) (fun h5 => ?_)
            · have h5' : (c ≠ 0 ∨ v ≠ 0) ∨ kids.length < 2 := by rw [hl2] at h5; simpa using h5
              repeat (first | refine wk hT rfl rfl ?_ | refine wd hT rfl rfl rfl ?_ | refine wz hT rfl ?_ | refine AWd_nil ?_ | refine AWk_nil ?_ | refine wh hT rfl rfl rfl rfl ?_ | refine wg hT rfl rfl rfl rfl rfl ?_ | refine AW_seq ?_ | refine AW_region ?_ | refine wx mixed ?_ | refine AW_block ?_ | refine AW_skip ?_ | refine AW_exit ?_ | refine AW_ret ?_)
              refine ret_exact rfl (.refl _) rfl rfl rfl rfl ⟨congrArg (fun b => AV.d (.bool b)) ?_, rfl⟩
              rw [validC, if_neg hk1, if_neg hk2, if_pos hk34]
              by_cases hcv : c ≠ 0 ∨ v ≠ 0
              · rw [if_pos hcv]
              · rw [if_neg hcv]; simp [h5'.resolve_left hcv]
            · have h5' : ¬ ((c ≠ 0 ∨ v ≠ 0) ∨ kids.length < 2) := by
                rw [hl2] at h5
                intro hh
                rw [show ((c != 0 || v != 0) || decide (kids.length < 2)) = true by simpa using hh] at h5
                cases h5
              have hcv : ¬ (c ≠ 0 ∨ v ≠ 0) := fun hh => h5' (.inl hh)
              have hge2 : ¬ kids.length < 2 := fun hh => h5' (.inr hh)
              have hval : validC (d + 1) (.mk k c v kids) = (!(kids.any fun x => kindC x == k) && !(kids.any fun x => !validC d x)) := by
                rw [validC, if_neg hk1, if_neg hcv, if_neg hk2, if_pos hk34]; simp [hge2]
              rw [hval]
              repeat (first | refine wk hT rfl rfl ?_ | refine wd hT rfl rfl rfl ?_ | refine wz hT rfl ?_ | refine AWd_nil ?_ | refine AWk_nil ?_ | refine wh hT rfl rfl rfl rfl ?_ | refine wg hT rfl rfl rfl rfl rfl ?_ | refine AW_seq ?_ | refine AW_region ?_ | refine wx mixed ?_ | refine AW_block ?_ | refine AW_skip ?_ | refine AW_exit ?_ | refine AW_ret ?_)
              refine AW_loopL (ι := Nat) (fun j => [(1, .d (.int .i64 ((d + 1 : Nat) : Int))), (2, .ptr 0 0), (5, .d (.int .i64 j))]) (fun _ => [.row [.d (.int .i64 k), .d (.int .i64 c), .d (.int .i64 v), .d (.sl 4 (encCs kids))]])
                (fun j => j ≤ kids.length ∧ ∀ i, (hi : i < j) → (hi2 : i < kids.length) → kindC kids[i] ≠ k ∧ validC d kids[i] = true) (fun j => kids.length - j) 0 ⟨by omega, fun i hi => by omega⟩ ⟨.refl _, .refl _, .refl _, trivial⟩ (HLe.refl _) ?_
              rintro j ⟨hj, hb⟩
              repeat (first | refine wk hT rfl rfl ?_ | refine wd hT rfl rfl rfl ?_ | refine wz hT rfl ?_ | refine AWd_nil ?_ | refine AWk_nil ?_ | refine wh hT rfl rfl rfl rfl ?_ | refine wg hT rfl rfl rfl rfl rfl ?_ | refine AW_seq ?_ | refine AW_region ?_ | refine wx mixed ?_ | refine AW_block ?_ | refine AW_skip ?_ | refine AW_exit ?_ | refine AW_ret ?_)
              refine AW_condL rfl (fun h6 => ?_) (fun h6 => ?_)
              · have hlt : j < kids.length := by rw [hlen] at h6; simpa using h6
                have hel : (encCs kids)[((j : Int)).toNat]? = some (encC kids[j]) := by simp [encCs_eq, hlt]
                have hmem := List.getElem_mem hlt
                have hx := ih kids[j] hmem
                have hwr : IntKind.i64.wrap ((j : Int) + 1) = ((j + 1 : Nat) : Int) := by rw [wrap_id (by omega)]; simp
                generalize hxe : kids[j] = x at hel hx hmem
                obtain ⟨xk, xc, xv, xkids⟩ := x
                repeat (first | refine wk hT rfl rfl ?_ | refine wd hT rfl rfl rfl ?_ | refine wz hT rfl ?_ | refine AWd_nil ?_ | refine AWk_nil ?_ | refine wh hT rfl rfl rfl rfl ?_ | refine wg hT rfl rfl rfl rfl rfl ?_ | refine AW_seq ?_ | refine AW_region ?_ | refine wx mixed ?_ | refine AW_block ?_ | refine AW_skip ?_ | refine AW_exit ?_ | refine AW_ret ?_)
                refine AWd_op (OpS_of_pure (indexAddr_ok hT rfl rfl rfl rfl (by omega) hel)) rfl rfl ?_
                repeat (first | refine wk hT rfl rfl ?_ | refine wd hT rfl rfl rfl ?_ | refine wz hT rfl ?_ | refine AWd_nil ?_ | refine AWk_nil ?_ | refine wh hT rfl rfl rfl rfl ?_ | refine wg hT rfl rfl rfl rfl rfl ?_ | refine AW_seq ?_ | refine AW_region ?_ | refine wx mixed ?_ | refine AW_block ?_ | refine AW_skip ?_ | refine AW_exit ?_ | refine AW_ret ?_)
                refine AWd_gop rfl rfl rfl rfl (fun hg => ⟨by first | exact True.intro | exact ⟨hg, True.intro⟩ | exact ⟨hg, hg, True.intro⟩, OpS_of_pure (indexAddr_ok hT rfl rfl rfl rfl (by omega) hel)⟩) ?_
                repeat (first | refine wk hT rfl rfl ?_ | refine wd hT rfl rfl rfl ?_ | refine wz hT rfl ?_ | refine AWd_nil ?_ | refine AWk_nil ?_ | refine wh hT rfl rfl rfl rfl ?_ | refine wg hT rfl rfl rfl rfl rfl ?_ | refine AW_seq ?_ | refine AW_region ?_ | refine wx mixed ?_ | refine AW_block ?_ | refine AW_skip ?_ | refine AW_exit ?_ | refine AW_ret ?_)
                rw [hw]
                refine AWd_gop rfl rfl rfl rfl (fun hg => ⟨by first | exact True.intro | exact ⟨hg, True.intro⟩ | exact ⟨hg, hg, True.intro⟩, callS0 rfl rfl hx rfl rfl rfl⟩) ?_
                repeat (first | refine wk hT rfl rfl ?_ | refine wd hT rfl rfl rfl ?_ | refine wz hT rfl ?_ | refine AWd_nil ?_ | refine AWk_nil ?_ | refine wh hT rfl rfl rfl rfl ?_ | refine wg hT rfl rfl rfl rfl rfl ?_ | refine AW_seq ?_ | refine AW_region ?_ | refine wx mixed ?_ | refine AW_block ?_ | refine AW_skip ?_ | refine AW_exit ?_ | refine AW_ret ?_)
                refine AW_condL rfl (fun h7 => ?_) (fun h7 => ?_)
                · have h7' : xk = k ∨ validC d (.mk xk xc xv xkids) = false := by simpa using h7
                  repeat (first | refine wk hT rfl rfl ?_ | refine wd hT rfl rfl rfl ?_ | refine wz hT rfl ?_ | refine AWd_nil ?_ | refine AWk_nil ?_ | refine wh hT rfl rfl rfl rfl ?_ | refine wg hT rfl rfl rfl rfl rfl ?_ | refine AW_seq ?_ | refine AW_region ?_ | refine wx mixed ?_ | refine AW_block ?_ | refine AW_skip ?_ | refine AW_exit ?_ | refine AW_ret ?_)
                  refine ret_exact rfl (.refl _) rfl rfl rfl rfl ⟨congrArg (fun b => AV.d (.bool b)) ?_, rfl⟩
                  rcases h7' with h7' | h7'
                  · rw [show (kids.any fun x => kindC x == k) = true from List.any_eq_true.2 ⟨_, hmem, by simp [kindC, h7']⟩]; rfl
                  · rw [show (kids.any fun x => !validC d x) = true from List.any_eq_true.2 ⟨_, hmem, by simp [h7']⟩]; simp
                · have h7' : ¬ (xk = k ∨ validC d (.mk xk xc xv xkids) = false) := by
                    intro hh
                    rw [show ((xk == k) || !validC d (.mk xk xc xv xkids)) = true by simpa using hh] at h7
                    cases h7
                  repeat (first | refine wk hT rfl rfl ?_ | refine wd hT rfl rfl rfl ?_ | refine wz hT rfl ?_ | refine AWd_nil ?_ | refine AWk_nil ?_ | refine wh hT rfl rfl rfl rfl ?_ | refine wg hT rfl rfl rfl rfl rfl ?_ | refine AW_seq ?_ | refine AW_region ?_ | refine wx mixed ?_ | refine AW_block ?_ | refine AW_skip ?_ | refine AW_exit ?_ | refine AW_ret ?_)
                  refine ⟨j + 1, ⟨by omega, fun i hi hi2 => ?_⟩, by omega, ⟨.refl _, .refl _, AV.le.eq (by show AV.d (.int .i64 (IntKind.i64.wrap ((j : Int) + 1))) = _; rw [hwr]), trivial⟩, HLe.refl _⟩
                  by_cases hij : i = j
                  · subst hij; rw [hxe]; exact ⟨fun hh => h7' (.inl hh), by simpa using fun hh => h7' (.inr hh)⟩
                  · exact hb i (by omega) hi2
              · have hge : j = kids.length := by rw [hlen] at h6; simp at h6; omega
                subst hge
                repeat (first | refine wk hT rfl rfl ?_ | refine wd hT rfl rfl rfl ?_ | refine wz hT rfl ?_ | refine AWd_nil ?_ | refine AWk_nil ?_ | refine wh hT rfl rfl rfl rfl ?_ | refine wg hT rfl rfl rfl rfl rfl ?_ | refine AW_seq ?_ | refine AW_region ?_ | refine wx mixed ?_ | refine AW_block ?_ | refine AW_skip ?_ | refine AW_exit ?_ | refine AW_ret ?_)
                refine ret_exact rfl (.refl _) rfl rfl rfl rfl ⟨congrArg (fun b => AV.d (.bool b)) ?_, rfl⟩
                have e1 : (kids.any fun x => kindC x == k) = false := by
                  rw [List.any_eq_false]; intro x hx
                  obtain ⟨i, hi, rfl⟩ := List.mem_iff_getElem.1 hx
                  simpa using (hb i hi hi).1
                have e2 : (kids.any fun x => !validC d x) = false := by
                  rw [List.any_eq_false]; intro x hx
                  obtain ⟨i, hi, rfl⟩ := List.mem_iff_getElem.1 hx
                  simpa using (hb i hi hi).2
                rw [e1, e2]; rfl
          · have hk34 : ¬ (k = 3 ∨ k = 4) := by simpa using h4
            repeat (first | refine wk hT rfl rfl ?_ | refine wd hT rfl rfl rfl ?_ | refine wz hT rfl ?_ | refine AWd_nil ?_ | refine AWk_nil ?_ | refine wh hT rfl rfl rfl rfl ?_ | refine wg hT rfl rfl rfl rfl rfl ?_ | refine AW_seq ?_ | refine AW_region ?_ | refine wx mixed ?_ | refine AW_block ?_ | refine AW_skip ?_ | refine AW_exit ?_ | refine AW_ret ?_)
            refine ret_exact rfl (.refl _) rfl rfl rfl rfl ⟨congrArg (fun b => AV.d (.bool b)) ?_, rfl⟩
            rw [validC, if_neg hk1, if_neg hk2, if_neg hk34]; simp
end Tdoc
/- The reference: which policies are valid. -/
set_option linter.unusedVariables false
set_option linter.unusedSimpArgs false
namespace Tdoc
open Go Go.Proofs

set_option maxHeartbeats 8000000 in
set_option maxRecDepth 100000 in
theorem ValidR_spec (l : List Rule) (hs : ∀ r, r ∈ l → smallC (condR r)) : Spec Tryz.prog 31 [polAV l] [] (fun r h' => r = .d (.int .i64 (validPol l)) ∧ h' = []) := by
  refine Spec_of_body hT Tryz.func31 rfl rfl rfl rfl ?_
  intro E hE
  have hlen : (encRs l).length = l.length := by simp [encRs]
  repeat (first | refine wk hT rfl rfl ?_ | refine wd hT rfl rfl rfl ?_ | refine wz hT rfl ?_ | refine AWd_nil ?_ | refine AWk_nil ?_ | refine wh hT rfl rfl rfl rfl ?_ | refine wg hT rfl rfl rfl rfl rfl ?_ | refine AW_seq ?_ | refine AW_region ?_ | refine wx mixed ?_ | refine AW_block ?_ | refine AW_skip ?_ | refine AW_exit ?_ | refine AW_ret ?_)
  refine AW_condL rfl (fun h1 => ?_) (fun h1 => ?_)
  · have h1' : l.length > 32 := by rw [hlen] at h1; simp at h1; omega
    repeat (first | refine wk hT rfl rfl ?_ | refine wd hT rfl rfl rfl ?_ | refine wz hT rfl ?_ | refine AWd_nil ?_ | refine AWk_nil ?_ | refine wh hT rfl rfl rfl rfl ?_ | refine wg hT rfl rfl rfl rfl rfl ?_ | refine AW_seq ?_ | refine AW_region ?_ | refine wx mixed ?_ | refine AW_block ?_ | refine AW_skip ?_ | refine AW_exit ?_ | refine AW_ret ?_)
    refine ret_exact rfl (.refl _) rfl rfl rfl rfl ⟨?_, rfl⟩
    rw [validPol, if_pos h1']; rfl
  · have h1' : ¬ l.length > 32 := by rw [hlen] at h1; simp at h1; omega
    rw [validPol, if_neg h1']
    repeat (first | refine wk hT rfl rfl ?_ | refine wd hT rfl rfl rfl ?_ | refine wz hT rfl ?_ | refine AWd_nil ?_ | refine AWk_nil ?_ | refine wh hT rfl rfl rfl rfl ?_ | refine wg hT rfl rfl rfl rfl rfl ?_ | refine AW_seq ?_ | refine AW_region ?_ | refine wx mixed ?_ | refine AW_block ?_ | refine AW_skip ?_ | refine AW_exit ?_ | refine AW_ret ?_)
    refine AW_loopC (ι := Nat) (fun k => [(1, .ptr 0 0), (3, .d (.int .i64 k))]) (fun _ => [.row [.d (.sl 6 (encRs l))]]) (fun k => k ≤ l.length ∧ firstErr (l.drop k) = firstErr l) (fun k => l.length - k) 0
      ⟨by omega, rfl⟩ ⟨.refl _, .refl _, trivial⟩ (HLe.refl _) ?_
    rintro k ⟨hk, hf⟩
    repeat (first | refine wk hT rfl rfl ?_ | refine wd hT rfl rfl rfl ?_ | refine wz hT rfl ?_ | refine AWd_nil ?_ | refine AWk_nil ?_ | refine wh hT rfl rfl rfl rfl ?_ | refine wg hT rfl rfl rfl rfl rfl ?_ | refine AW_seq ?_ | refine AW_region ?_ | refine wx mixed ?_ | refine AW_block ?_ | refine AW_skip ?_ | refine AW_exit ?_ | refine AW_ret ?_)
    refine AW_condL rfl (fun h2 => ?_) (fun h2 => ?_)
    · have hlt : k < l.length := by rw [hlen] at h2; simpa using h2
      have hel : (encRs l)[((k : Int)).toNat]? = some (encR l[k]) := by simp [encRs, hlt]
      have hd : l.drop k = l[k] :: l.drop (k + 1) := by simp
      rw [hd] at hf
      have hsm := hs l[k] (List.getElem_mem hlt)
      generalize l[k] = r at hel hf hsm
      obtain ⟨v, al, ⟨ck, cc, cv, kids⟩⟩ := r
      have hkl := encCs_length kids
      have hv := good_spec 8 (.mk ck cc cv kids) (by omega) hsm
      have hz := zero_spec (.mk ck cc cv kids)
      have hzc : zeroC (.mk ck cc cv kids) = false ↔ (ck ≠ 0 ∨ cc ≠ 0 ∨ cv ≠ 0 ∨ 0 < kids.length) := by
        rw [zeroC]; simp; rw [Nat.pos_iff_ne_zero, ne_eq, List.length_eq_zero_iff]
        by_cases h1 : ck = 0 <;> by_cases h2 : cc = 0 <;> by_cases h3 : cv = 0 <;> simp [h1, h2, h3]
      generalize zeroC (.mk ck cc cv kids) = zc at hz hzc
      rw [firstErr] at hf
      repeat (first | refine wk hT rfl rfl ?_ | refine wd hT rfl rfl rfl ?_ | refine wz hT rfl ?_ | refine AWd_nil ?_ | refine AWk_nil ?_ | refine wh hT rfl rfl rfl rfl ?_ | refine wg hT rfl rfl rfl rfl rfl ?_ | refine AW_seq ?_ | refine AW_region ?_ | refine wx mixed ?_ | refine AW_block ?_ | refine AW_skip ?_ | refine AW_exit ?_ | refine AW_ret ?_)
      refine AWk_op (OpS_of_pure (indexAddr_ok hT rfl rfl rfl rfl (by omega) hel)) rfl ?_
      repeat (first | refine wk hT rfl rfl ?_ | refine wd hT rfl rfl rfl ?_ | refine wz hT rfl ?_ | refine AWd_nil ?_ | refine AWk_nil ?_ | refine wh hT rfl rfl rfl rfl ?_ | refine wg hT rfl rfl rfl rfl rfl ?_ | refine AW_seq ?_ | refine AW_region ?_ | refine wx mixed ?_ | refine AW_block ?_ | refine AW_skip ?_ | refine AW_exit ?_ | refine AW_ret ?_)
      refine AW_condL rfl (fun h3 => ?_) (fun h3 => ?_)
      · have h3' : v < 1 ∨ v > 3 := by simpa using h3
        repeat (first | refine wk hT rfl rfl ?_ | refine wd hT rfl rfl rfl ?_ | refine wz hT rfl ?_ | refine AWd_nil ?_ | refine AWk_nil ?_ | refine wh hT rfl rfl rfl rfl ?_ | refine wg hT rfl rfl rfl rfl rfl ?_ | refine AW_seq ?_ | refine AW_region ?_ | refine wx mixed ?_ | refine AW_block ?_ | refine AW_skip ?_ | refine AW_exit ?_ | refine AW_ret ?_)
        refine ret_exact rfl (.refl _) rfl rfl rfl rfl ⟨?_, rfl⟩
        rw [← hf, ruleErr, if_pos h3']; rfl
      · have h3' : ¬ (v < 1 ∨ v > 3) := by simpa using h3
        repeat (first | refine wk hT rfl rfl ?_ | refine wd hT rfl rfl rfl ?_ | refine wz hT rfl ?_ | refine AWd_nil ?_ | refine AWk_nil ?_ | refine wh hT rfl rfl rfl rfl ?_ | refine wg hT rfl rfl rfl rfl rfl ?_ | refine AW_seq ?_ | refine AW_region ?_ | refine wx mixed ?_ | refine AW_block ?_ | refine AW_skip ?_ | refine AW_exit ?_ | refine AW_ret ?_)
        refine AWk_gop rfl rfl rfl (fun hg => ⟨by first | exact True.intro | exact ⟨hg, True.intro⟩ | exact ⟨hg, hg, True.intro⟩, callS0 rfl rfl hz rfl rfl rfl⟩) ?_
        repeat (first | refine wk hT rfl rfl ?_ | refine wd hT rfl rfl rfl ?_ | refine wz hT rfl ?_ | refine AWd_nil ?_ | refine AWk_nil ?_ | refine wh hT rfl rfl rfl rfl ?_ | refine wg hT rfl rfl rfl rfl rfl ?_ | refine AW_seq ?_ | refine AW_region ?_ | refine wx mixed ?_ | refine AW_block ?_ | refine AW_skip ?_ | refine AW_exit ?_ | refine AW_ret ?_)
        refine AWk_gop rfl rfl rfl (fun hg => ⟨by first | exact True.intro | exact ⟨hg, True.intro⟩ | exact ⟨hg, hg, True.intro⟩, callS0 rfl rfl hv rfl rfl rfl⟩) ?_
        repeat (first | refine wk hT rfl rfl ?_ | refine wd hT rfl rfl rfl ?_ | refine wz hT rfl ?_ | refine AWd_nil ?_ | refine AWk_nil ?_ | refine wh hT rfl rfl rfl rfl ?_ | refine wg hT rfl rfl rfl rfl rfl ?_ | refine AW_seq ?_ | refine AW_region ?_ | refine wx mixed ?_ | refine AW_block ?_ | refine AW_skip ?_ | refine AW_exit ?_ | refine AW_ret ?_)
        refine AW_condL rfl (fun h5 => ?_) (fun h5 => ?_)
        · have h5' : (al = true ∧ zc = false) ∨ (al = false ∧ validC 8 (.mk ck cc cv kids) = false) := by simpa using h5
          repeat (first | refine wk hT rfl rfl ?_ | refine wd hT rfl rfl rfl ?_ | refine wz hT rfl ?_ | refine AWd_nil ?_ | refine AWk_nil ?_ | refine wh hT rfl rfl rfl rfl ?_ | refine wg hT rfl rfl rfl rfl rfl ?_ | refine AW_seq ?_ | refine AW_region ?_ | refine wx mixed ?_ | refine AW_block ?_ | refine AW_skip ?_ | refine AW_exit ?_ | refine AW_ret ?_)
          refine ret_exact rfl (.refl _) rfl rfl rfl rfl ⟨?_, rfl⟩
          have : ruleErr (.mk v al (.mk ck cc cv kids)) = 1 := by
            rw [ruleErr, if_neg h3']
            rcases h5' with ⟨h6, h7⟩ | h6
            · rw [if_pos ⟨h6, hzc.1 h7⟩]
            · rw [if_neg (by rintro ⟨h8, _⟩; rw [h6.1] at h8; cases h8), if_pos h6]
          rw [← hf, this]; rfl
        · have h5' : ¬ ((al = true ∧ zc = false) ∨ (al = false ∧ validC 8 (.mk ck cc cv kids) = false)) := by
            intro hh
            rw [show ((al && !zc) || (!al && !validC 8 (.mk ck cc cv kids))) = true by simpa using hh] at h5
            cases h5
          have hz : ruleErr (.mk v al (.mk ck cc cv kids)) = 0 := by
            rw [ruleErr, if_neg h3', if_neg (fun hh => h5' (.inl ⟨hh.1, hzc.2 hh.2⟩)), if_neg (fun hh => h5' (.inr hh))]
          rw [if_pos hz] at hf
          repeat (first | refine wk hT rfl rfl ?_ | refine wd hT rfl rfl rfl ?_ | refine wz hT rfl ?_ | refine AWd_nil ?_ | refine AWk_nil ?_ | refine wh hT rfl rfl rfl rfl ?_ | refine wg hT rfl rfl rfl rfl rfl ?_ | refine AW_seq ?_ | refine AW_region ?_ | refine wx mixed ?_ | refine AW_block ?_ | refine AW_skip ?_ | refine AW_exit ?_ | refine AW_ret ?_)
          refine ⟨k + 1, [.dead], ⟨by omega, hf⟩, by omega, ⟨.refl _, AV.le.eq ?_, trivial⟩, ⟨ObLe.refl _, trivial, trivial⟩, Env.below_mono hE (by simp), rfl, rfl⟩
          show AV.d (.int .i64 (IntKind.i64.wrap ((k : Int) + 1))) = _
          rw [wrap_id (by omega)]; rfl
    · have hge : k = l.length := by rw [hlen] at h2; simp at h2; omega
      repeat (first | refine wk hT rfl rfl ?_ | refine wd hT rfl rfl rfl ?_ | refine wz hT rfl ?_ | refine AWd_nil ?_ | refine AWk_nil ?_ | refine wh hT rfl rfl rfl rfl ?_ | refine wg hT rfl rfl rfl rfl rfl ?_ | refine AW_seq ?_ | refine AW_region ?_ | refine wx mixed ?_ | refine AW_block ?_ | refine AW_skip ?_ | refine AW_exit ?_ | refine AW_ret ?_)
      refine ret_exact rfl (.refl _) rfl rfl rfl rfl ⟨?_, rfl⟩
      rw [← hf, hge, List.drop_length]; rfl
end Tdoc
/- The reference: what a text means. -/
set_option linter.unusedVariables false
set_option linter.unusedSimpArgs false
namespace Tdoc
open Go Go.Proofs

/-- A cut between two pieces of code that forgets objects. -/
theorem AW_seq_cutC {P : Program} {E : Env} {N : Nat} {τ : Nat → AV} {h : List AObj} {Q : Exit → (Nat → AV) → List AObj → Prop} {x y : Code} {ι : Type} (S : ι → List (Nat × AV)) (H : ι → List AObj) (inv : ι → Prop)
    (hx : AW P E N x (thenA (fun τ' h' => ∃ i junk, inv i ∧ SubL τ' (S i) ∧ HLe h' (H i ++ junk) ∧ E.below (H i).length ∧ lowS (H i).length (S i) = true ∧ lowH (H i).length (H i) = true) Q) τ h) (hy : ∀ i, inv i → AW P E N y Q (look (S i)) (H i)) :
    AW P E N (.seq x y) Q τ h := by
  refine AW_seq (AW_mono hx fun e τ' h' hq => ?_)
  cases e with
  | normal => obtain ⟨i, junk, h1, h3, h4, h5, h6, h7⟩ := hq; exact AW_sub (Rel_cut h5 h3 h6 h4 h7) (hy i h1)
  | _ => exact hq

theorem flatL_small (kind : Int) : ∀ {l : List Cond}, smallCs l → smallCs (flatL kind l)
  | [], _ => trivial
  | a :: l, h => by
    rw [show a :: l = [a] ++ l from rfl, flatL_append, flatL_one]
    exact smallCs_append (flatC_small h.1) (flatL_small kind h.2)

theorem joinR_small {kind : Int} {l : List Cond} (h : smallCs l) (hf : (flatL kind l).length ≤ 1000000000) : smallC (joinR kind l) := by
  unfold joinR
  split
  · exact h.1
  · exact ⟨hf, flatL_small kind h⟩

def PSmall (ws : List Wd) (n : Nat) (part : RS → Cond × RS) : Prop := ∀ s, s.i ≤ ws.length → ws.length - s.i < n → smallC (part s).1

theorem loopR_small {ws : List Wd} {n : Nat} {part : RS → Cond × RS} (hp : POk ws n part) (hs : PSmall ws n part) {w : List UInt8} (hw : w ≠ []) : ∀ (m : Nat) (l : List Cond) (s : RS), ws.length - s.i < n + 1 → smallCs l → smallCs (loopR ws w part m l s).1
  | 0, l, s, hn, hl => hl
  | m + 1, l, s, hn, hl => by
    unfold loopR
    split
    · rename_i hc
      have hlt := peekR_lt (ws := ws) (s := s) (by rw [hc.2]; exact hw)
      have hi : s.inc.i = s.i + 1 := rfl
      obtain ⟨q1, q2, q3⟩ := hp.inv s.inc (by omega) (by omega)
      exact loopR_small hp hs hw m _ _ (by omega) (smallCs_append hl ⟨hs s.inc (by omega) (by omega), trivial⟩)
    · exact hl

theorem seriesR_small {ws : List Wd} {n : Nat} {part : RS → Cond × RS} (hl : ws.length ≤ 1000000) (hn1 : n ≤ 1000001) (hp : POk ws n part) (hs : PSmall ws n part) (kind : Int) {w : List UInt8} (hw : w ≠ []) : PSmall ws n (seriesR ws kind w part) := by
  intro s h hn
  have h1 := LOk.one (kind := kind) hp h hn
  have hlo := h1.lo
  have h2 := loopR_ok hp hw (ws.length + 1) _ _ h1 (by omega)
  have := h2.flat; have := h2.hi
  exact joinR_small (loopR_small hp hs hw _ _ _ (by omega) ⟨hs s h hn, trivial⟩) (by omega)

theorem atomR_small {ws : List Wd} (hl : ws.length ≤ 1000000) : ∀ n, n ≤ 1000001 → PSmall ws n (atomR ws n)
  | 0, _ => fun s _ hn => by omega
  | n + 1, hn1 => by
    have ih := atomR_small hl n (by omega)
    intro s h hn
    have hi : s.inc.i = s.i + 1 := rfl
    unfold atomR
    split
    · exact ⟨by simp, trivial⟩
    · split
      · rename_i hc
        have hlt := peekR_lt (ws := ws) (s := s) (by rw [hc]; decide)
        exact ⟨by simp, ih s.inc (by omega) (by omega), trivial⟩
      · split
        · rename_i hc
          have hlt := peekR_lt (ws := ws) (s := s) (by rw [hc]; decide)
          exact seriesR_small hl (by omega) (conjR_ok ws n) (seriesR_small hl (by omega) (atomR_ok ws n) ih 3 (w := andW) (by decide)) 4 (w := orW) (by decide) s.inc (by omega) (by omega)
        · split
          · exact ⟨by simp, trivial⟩
          · split <;> exact ⟨by simp, trivial⟩

theorem condR'_small {ws : List Wd} (hl : ws.length ≤ 1000000) {n : Nat} (hn : n ≤ 1000001) : PSmall ws n (condR' ws n) :=
  seriesR_small hl hn (conjR_ok ws n) (seriesR_small hl hn (atomR_ok ws n) (atomR_small hl n hn) 3 (w := andW) (by decide)) 4 (w := orW) (by decide)

/-- One rule, its verdict being a word. -/
def ruleR (ws : List Wd) (s : RS) : Rule × RS :=
  if peekR ws s.inc = ifW then (.mk (sIdx vds (peekR ws s) + 1) false (condR' ws (ws.length + 1) s.inc.inc).1, takeR ws (condR' ws (ws.length + 1) s.inc.inc).2 scW)
  else (.mk (sIdx vds (peekR ws s) + 1) true (.mk 0 0 0 []), takeR ws s.inc scW)

def rulesR (ws : List Wd) : Nat → List Rule → RS → List Rule × RS
  | 0, l, s => (l, s)
  | m + 1, l, s => if s.bad < 0 ∧ s.i < ws.length then (if sIdx vds (peekR ws s) + 1 = 0 then (l, failR ws s) else rulesR ws m (l ++ [(ruleR ws s).1]) (ruleR ws s).2) else (l, s)

def endR (text : List UInt8) (bro : Int) : Int := if 0 ≤ bro then bro else text.length
def parseQR (text : List UInt8) (wb : List Wd × Int) : List Rule × RS := rulesR wb.1 (wb.1.length + 1) [] ⟨0, endR text wb.2, -1⟩
def badR (wb : List Wd × Int) (s : RS) : Int := if s.bad < 0 then wb.2 else s.bad
def parseR (text : List UInt8) : List Rule × Int × Int :=
  if text.length > 4096 then ([], 0, 72)
  else if 0 ≤ badR (wordsR text (text.length + 1) 0 []) (parseQR text (wordsR text (text.length + 1) 0 [])).2 then ([], badR (wordsR text (text.length + 1) 0 []) (parseQR text (wordsR text (text.length + 1) 0 [])).2, 71)
  else if validPol (parseQR text (wordsR text (text.length + 1) 0 [])).1 ≠ 0 then ([], 0, 72) else ((parseQR text (wordsR text (text.length + 1) 0 [])).1, 0, 0)

theorem wordsR_len (text : List UInt8) : ∀ (m i : Nat) (out : List Wd), out.length ≤ i → i ≤ text.length → (wordsR text m i out).1.length ≤ text.length
  | 0, i, out, h1, h2 => by simp only [wordsR]; omega
  | m + 1, i, out, h1, h2 => by
    rw [wordsR]
    have hl := congrArg List.length (rfl : text.drop i = text.drop i)
    split
    · simp only; omega
    · rename_i c r hd
      have hlen : (c :: r).length = text.length - i := by rw [← hd]; simp
      have hc := cmt_le (c :: r); have hw := lets_le (c :: r)
      rw [hlen] at hc hw
      have hpos : 0 < text.length - i := by rw [← hlen]; simp
      split
      · exact wordsR_len text m _ _ (by omega) (by omega)
      · split
        · exact wordsR_len text m _ _ (by omega) (by omega)
        · split
          · exact wordsR_len text m _ _ (by simp; omega) (by omega)
          · split
            · rename_i hlow
              have : 0 < lets (c :: r) := by rw [lets, if_pos hlow]; omega
              exact wordsR_len text m _ _ (by simp; omega) (by omega)
            · simp only; omega

theorem ruleR_ok {ws : List Wd} (hl : ws.length ≤ 1000000) {s : RS} (h : s.i < ws.length) :
    s.i < (ruleR ws s).2.i ∧ (ruleR ws s).2.i ≤ 3000000 ∧ smallC (condR (ruleR ws s).1) := by
  have e1 : ∀ x : RS, x.inc.i = x.i + 1 := fun _ => rfl
  unfold ruleR
  split
  · rename_i hc
    have hlt := peekR_lt (ws := ws) (s := s.inc) (by rw [hc]; decide)
    rw [e1] at hlt
    obtain ⟨q1, q2, q3⟩ := (condR'_ok ws (ws.length + 1)).inv s.inc.inc (by simp only [e1]; omega) (by simp only [e1]; omega)
    simp only [e1] at q1
    exact ⟨by simp only [takeR_i]; omega, by simp only [takeR_i]; omega, condR'_small hl (by omega) s.inc.inc (by simp only [e1]; omega) (by simp only [e1]; omega)⟩
  · exact ⟨by simp only [takeR_i, e1]; omega, by simp only [takeR_i, e1]; omega, by simp, trivial⟩
end Tdoc
/- The reference: Parse. -/
set_option linter.unusedVariables false
set_option linter.unusedSimpArgs false
namespace Tdoc
open Go Go.Proofs

theorem AW_cutA {P : Program} {E : Env} {N : Nat} {τ : Nat → AV} {h : List AObj} {Q : Exit → (Nat → AV) → List AObj → Prop} {c y : Code} (S : List (Nat × AV)) (H : List AObj)
    (hx : AW P E N c (thenA (fun τ' h' => SubL τ' S ∧ HLe h' H) Q) τ h) (hy : AW P E N y Q (look S) H) : AW P E N c (thenA (fun τ h => AW P E N y Q τ h) Q) τ h := by
  refine AW_mono hx fun e τ' h' hq => ?_
  cases e with
  | normal => exact AW_subL hq.1 hq.2 hy
  | _ => exact hq

set_option maxHeartbeats 8000000 in
set_option maxRecDepth 100000 in
theorem ParseR_spec (text : List UInt8) (hl : text.length ≤ 1000000) :
    Spec Tryz.prog 20 [.d (.str text)] [] (fun r h' => r = .tup [polAV (parseR text).1, .d (.int .i64 (parseR text).2.1), .d (.int .i64 (parseR text).2.2)] ∧ h' = []) := by
  refine Spec_of_body hT Tryz.func20 rfl rfl rfl rfl ?_
  intro E hE
  have hwords := words_spec text hl
  have hwl := wordsR_len text (text.length + 1) 0 [] (by simp) (by simp)
  unfold parseR
  generalize wordsR text (text.length + 1) 0 [] = wb at hwords hwl ⊢
  obtain ⟨ws, bro⟩ := wb
  simp only at hwl hwords
  repeat (first | refine wk hT rfl rfl ?_ | refine wd hT rfl rfl rfl ?_ | refine wz hT rfl ?_ | refine AWd_nil ?_ | refine AWk_nil ?_ | refine wh hT rfl rfl rfl rfl ?_ | refine wg hT rfl rfl rfl rfl rfl ?_ | refine AW_seq ?_ | refine AW_region ?_ | refine wx mixed ?_ | refine AW_block ?_ | refine AW_skip ?_ | refine AW_exit ?_ | refine AW_ret ?_)
  refine AW_condL rfl (fun h1 => ?_) (fun h1 => ?_)
  · have h1' : text.length > 4096 := by simp at h1; omega
    rw [if_pos h1']
    repeat (first | refine wk hT rfl rfl ?_ | refine wd hT rfl rfl rfl ?_ | refine wz hT rfl ?_ | refine AWd_nil ?_ | refine AWk_nil ?_ | refine wh hT rfl rfl rfl rfl ?_ | refine wg hT rfl rfl rfl rfl rfl ?_ | refine AW_seq ?_ | refine AW_region ?_ | refine wx mixed ?_ | refine AW_block ?_ | refine AW_skip ?_ | refine AW_exit ?_ | refine AW_ret ?_)
    exact ret_exact (r := .tup [polAV [], .d (.int .i64 0), .d (.int .i64 72)]) rfl (AV.le.tup ⟨AV.le.agg ⟨AV.le.dat, trivial⟩, .refl _, .refl _, trivial⟩) rfl rfl rfl rfl ⟨rfl, rfl⟩
  · have h1' : ¬ text.length > 4096 := by simp at h1; omega
    rw [if_neg h1']
    generalize hq : parseQR text (ws, bro) = q
    unfold parseQR at hq
    simp only at hq
    repeat (first | refine wk hT rfl rfl ?_ | refine wd hT rfl rfl rfl ?_ | refine wz hT rfl ?_ | refine AWd_nil ?_ | refine AWk_nil ?_ | refine wh hT rfl rfl rfl rfl ?_ | refine wg hT rfl rfl rfl rfl rfl ?_ | refine AW_seq ?_ | refine AW_region ?_ | refine wx mixed ?_ | refine AW_block ?_ | refine AW_skip ?_ | refine AW_exit ?_ | refine AW_ret ?_)
    refine AWk_op (callS0 rfl rfl hwords rfl rfl rfl) rfl ?_
    repeat (first | refine wk hT rfl rfl ?_ | refine wd hT rfl rfl rfl ?_ | refine wz hT rfl ?_ | refine AWd_nil ?_ | refine AWk_nil ?_ | refine wh hT rfl rfl rfl rfl ?_ | refine wg hT rfl rfl rfl rfl rfl ?_ | refine AW_seq ?_ | refine AW_region ?_ | refine wx mixed ?_ | refine AW_block ?_ | refine AW_skip ?_ | refine AW_exit ?_ | refine AW_ret ?_)
    refine AW_cutA [(2, .ptr 0 0), (6, .d (.int .i64 bro)), (7, .ptr 1 0)] [.row [.sl 6 [] .full], .row (rsr ws ⟨0, endR text bro, -1⟩)] ?_ ?_
    · refine AW_condL rfl (fun h2 => ?_) (fun h2 => ?_)
      · have h2' : 0 ≤ bro := by simpa using h2
        repeat (first | refine wk hT rfl rfl ?_ | refine wd hT rfl rfl rfl ?_ | refine wz hT rfl ?_ | refine AWd_nil ?_ | refine AWk_nil ?_ | refine wh hT rfl rfl rfl rfl ?_ | refine wg hT rfl rfl rfl rfl rfl ?_ | refine AW_seq ?_ | refine AW_region ?_ | refine wx mixed ?_ | refine AW_block ?_ | refine AW_skip ?_ | refine AW_exit ?_ | refine AW_ret ?_)
        exact ⟨⟨.refl _, .refl _, .refl _, trivial⟩, ⟨ObLe.refl _, ⟨.refl _, AV.le.eq rfl, AV.le.eq (by rw [endR, if_pos h2']), .refl _, trivial⟩, trivial⟩⟩
      · have h2' : ¬ 0 ≤ bro := by simpa using h2
        repeat (first | refine AW_exit ?_ | refine AW_skip ?_)
        exact ⟨⟨.refl _, .refl _, .refl _, trivial⟩, ⟨ObLe.refl _, ⟨.refl _, AV.le.eq rfl, AV.le.eq (by rw [endR, if_neg h2']), .refl _, trivial⟩, trivial⟩⟩
    · refine AW_seq (AW_region ?_)
      repeat (first | refine wk hT rfl rfl ?_ | refine wd hT rfl rfl rfl ?_ | refine wz hT rfl ?_ | refine AWd_nil ?_ | refine AWk_nil ?_ | refine wh hT rfl rfl rfl rfl ?_ | refine wg hT rfl rfl rfl rfl rfl ?_)
      refine AW_seq_cutC (ι := List Rule × RS) (fun x => [(2, .ptr 0 0), (6, .d (.int .i64 bro)), (7, .ptr 1 0), (8, .ptr 2 0)]) (fun x => [.row [.sl 6 [] .full], .row (rsr ws x.2), .row [.d (.sl 6 (encRs x.1))], .dead])
        (fun x => x = q ∧ ∀ r, r ∈ x.1 → smallC (condR r)) ?_ ?_
      · refine AW_block ?_
        refine AW_room (AW_acquireH 2 0 3 6 rfl rfl rfl ?_)
        refine AW_loopC (ι := List Rule × RS)
          (fun x => [(2, .ptr 0 0), (6, .d (.int .i64 bro)), (7, .ptr 1 0), (8, .ptr 2 0)])
          (fun x => [.row [.sl 6 [] .full], .row (rsr ws x.2), .row [.sl 6 (encRs x.1) (.right 3)], .right 6 (encRs x.1).length])
          (fun x => x.1.length ≤ x.2.i ∧ (∀ r, r ∈ x.1 → smallC (condR r)) ∧ ∃ m, ws.length - x.2.i < m ∧ rulesR ws m x.1 x.2 = q)
          (fun x => ws.length - x.2.i) ([], ⟨0, endR text bro, -1⟩) ⟨by simp, (fun r hr => (by cases hr)), ws.length + 1, by simp only; omega, hq⟩
          ⟨.refl _, .refl _, .refl _, .refl _, trivial⟩ (HLe.refl _) ?_
        rintro ⟨l, s⟩ ⟨j2, j3, m, j4, j5⟩
        simp only at j2 j3 j4 j5 ⊢
        obtain ⟨m, rfl⟩ : ∃ m', m = m' + 1 := ⟨m - 1, by omega⟩
        rw [rulesR] at j5
        have hwsl := encWs_length ws
        have hpk := peek_spec ws s
        have hfl := fail_spec ws s
        have hpk1 := peek_spec ws s.inc
        have hrok := fun h => ruleR_ok (ws := ws) (by omega) (s := s) h
        obtain ⟨i, en, bad⟩ := s
        simp only at j2 j4 hrok
        repeat (first | refine wk hT rfl rfl ?_ | refine wd hT rfl rfl rfl ?_ | refine wz hT rfl ?_ | refine AWd_nil ?_ | refine AWk_nil ?_ | refine wh hT rfl rfl rfl rfl ?_ | refine wg hT rfl rfl rfl rfl rfl ?_ | refine AW_seq ?_ | refine AW_region ?_ | refine wx mixed ?_ | refine AW_block ?_ | refine AW_skip ?_ | refine AW_exit ?_ | refine AW_ret ?_)
        refine AW_condL rfl (fun h2 => ?_) (fun h2 => ?_)
        · have h2' : bad < 0 ∧ i < ws.length := by rw [hwsl] at h2; simpa using h2
          rw [if_pos h2'] at j5
          obtain ⟨r1, r2, r3⟩ := hrok h2'.2
          have hwr : IntKind.i64.wrap ((i : Int) + 1) = ((i + 1 : Nat) : Int) := by rw [wrap_id (by omega)]; simp
          have hwr2 : IntKind.i64.wrap (((i + 1 : Nat) : Int) + 1) = ((i + 1 + 1 : Nat) : Int) := by rw [wrap_id (by omega)]; simp
          repeat (first | refine wk hT rfl rfl ?_ | refine wd hT rfl rfl rfl ?_ | refine wz hT rfl ?_ | refine AWd_nil ?_ | refine AWk_nil ?_ | refine wh hT rfl rfl rfl rfl ?_ | refine wg hT rfl rfl rfl rfl rfl ?_ | refine AW_seq ?_ | refine AW_region ?_ | refine wx mixed ?_ | refine AW_block ?_ | refine AW_skip ?_ | refine AW_exit ?_ | refine AW_ret ?_)
          refine AWk_op (callS0 rfl rfl verdicts_spec rfl rfl rfl) rfl ?_
          repeat (first | refine wk hT rfl rfl ?_ | refine wd hT rfl rfl rfl ?_ | refine wz hT rfl ?_ | refine AWd_nil ?_ | refine AWk_nil ?_ | refine wh hT rfl rfl rfl rfl ?_ | refine wg hT rfl rfl rfl rfl rfl ?_ | refine AW_seq ?_ | refine AW_region ?_ | refine wx mixed ?_ | refine AW_block ?_ | refine AW_skip ?_ | refine AW_exit ?_ | refine AW_ret ?_)
          refine AWk_op (callS1 rfl rfl hpk [1] (by decide) rfl rfl rfl rfl rfl rfl rfl) rfl ?_
          refine AWk_op (callS0 rfl rfl (find_spec [] vds _ (by decide)) rfl rfl rfl) rfl ?_
          repeat (first | refine wk hT rfl rfl ?_ | refine wd hT rfl rfl rfl ?_ | refine wz hT rfl ?_ | refine AWd_nil ?_ | refine AWk_nil ?_ | refine wh hT rfl rfl rfl rfl ?_ | refine wg hT rfl rfl rfl rfl rfl ?_ | refine AW_seq ?_ | refine AW_region ?_ | refine wx mixed ?_ | refine AW_block ?_ | refine AW_skip ?_ | refine AW_exit ?_ | refine AW_ret ?_)
          refine AW_condL rfl (fun h3 => ?_) (fun h3 => ?_)
          · have h3' : sIdx vds (peekR ws ⟨i, en, bad⟩) + 1 = 0 := by simpa using h3
            rw [if_pos h3'] at j5
            repeat (first | refine wk hT rfl rfl ?_ | refine wd hT rfl rfl rfl ?_ | refine wz hT rfl ?_ | refine AWd_nil ?_ | refine AWk_nil ?_ | refine wh hT rfl rfl rfl rfl ?_ | refine wg hT rfl rfl rfl rfl rfl ?_ | refine AW_seq ?_ | refine AW_region ?_ | refine wx mixed ?_ | refine AW_block ?_ | refine AW_skip ?_ | refine AW_exit ?_ | refine AW_ret ?_)
            refine AWk_op (callS1 rfl rfl hfl [1] (by decide) rfl rfl rfl (lowH_rsr 0 _ _) (lowH_rsr 0 _ _) rfl rfl) rfl ?_
            repeat (first | refine wk hT rfl rfl ?_ | refine wd hT rfl rfl rfl ?_ | refine wz hT rfl ?_ | refine AWd_nil ?_ | refine AWk_nil ?_ | refine wh hT rfl rfl rfl rfl ?_ | refine wg hT rfl rfl rfl rfl rfl ?_ | refine AW_seq ?_ | refine AW_region ?_ | refine wx mixed ?_ | refine AW_block ?_ | refine AW_skip ?_ | refine AW_exit ?_ | refine AW_ret ?_)
            refine ⟨(l, failR ws ⟨i, en, bad⟩), [.dead], ⟨j5, j3⟩, ⟨.refl _, .refl _, .refl _, .refl _, trivial⟩, ⟨ObLe.refl _, ObLe.refl _, ⟨AV.le.dat, trivial⟩, trivial, trivial, trivial⟩, Env.below_mono hE (by simp), rfl, ?_⟩
            simp only [lowH, lowO, low_rsr]; rfl
          · have h3' : ¬ sIdx vds (peekR ws ⟨i, en, bad⟩) + 1 = 0 := by simpa using h3
            rw [if_neg h3'] at j5
            repeat (first | refine wk hT rfl rfl ?_ | refine wd hT rfl rfl rfl ?_ | refine wz hT rfl ?_ | refine AWd_nil ?_ | refine AWk_nil ?_ | refine wh hT rfl rfl rfl rfl ?_ | refine wg hT rfl rfl rfl rfl rfl ?_ | refine AW_seq ?_ | refine AW_region ?_ | refine wx mixed ?_ | refine AW_block ?_ | refine AW_skip ?_ | refine AW_exit ?_ | refine AW_ret ?_)
            refine AWk_op (callS1 rfl rfl hpk1 [1] (by decide) (by show [some (AObj.row [_, .d (.int .i64 (IntKind.i64.wrap ((i : Int) + 1))), _, _])] = _; rw [hwr]; rfl) rfl rfl rfl rfl rfl rfl) rfl ?_
            repeat (first | refine wk hT rfl rfl ?_ | refine wd hT rfl rfl rfl ?_ | refine wz hT rfl ?_ | refine AWd_nil ?_ | refine AWk_nil ?_ | refine wh hT rfl rfl rfl rfl ?_ | refine wg hT rfl rfl rfl rfl rfl ?_ | refine AW_seq ?_ | refine AW_region ?_ | refine wx mixed ?_ | refine AW_block ?_ | refine AW_skip ?_ | refine AW_exit ?_ | refine AW_ret ?_)
            refine AW_condL rfl (fun h4 => ?_) (fun h4 => ?_)
            · have h4' : peekR ws (RS.inc ⟨i, en, bad⟩) = ifW := by simpa [ifW] using h4
              have hlt1 : i + 1 < ws.length := peekR_lt (ws := ws) (s := RS.inc ⟨i, en, bad⟩) (by rw [h4']; decide)
              have hS := condAll_spec (ws := ws) (by omega) (n := ws.length + 1) (by omega) (RS.inc (RS.inc ⟨i, en, bad⟩)) (by show i + 1 + 1 ≤ _; omega) (by show _ - (i + 1 + 1) < _; omega)
              have hco := (condR'_ok ws (ws.length + 1)).inv (RS.inc (RS.inc ⟨i, en, bad⟩)) (by show i + 1 + 1 ≤ _; omega) (by show _ - (i + 1 + 1) < _; omega)
              rw [ruleR, if_pos h4'] at j5 r1 r2 r3
              generalize condR' ws (ws.length + 1) (RS.inc (RS.inc ⟨i, en, bad⟩)) = cs at hS hco j5 r1 r2 r3
              obtain ⟨⟨ck, cc, cv, kids⟩, s2⟩ := cs
              simp only at hS hco j5 r1 r2 r3
              have htake := take_spec ws s2 scW (by omega)
              generalize takeR ws s2 scW = s3 at htake j5 r1 r2
              repeat (first | refine wk hT rfl rfl ?_ | refine wd hT rfl rfl rfl ?_ | refine wz hT rfl ?_ | refine AWd_nil ?_ | refine AWk_nil ?_ | refine wh hT rfl rfl rfl rfl ?_ | refine wg hT rfl rfl rfl rfl rfl ?_ | refine AW_seq ?_ | refine AW_region ?_ | refine wx mixed ?_ | refine AW_block ?_ | refine AW_skip ?_ | refine AW_exit ?_ | refine AW_ret ?_)
              refine AWk_op (callS1 rfl rfl hS [1] (by decide) (by show [some (AObj.row [_, .d (.int .i64 (IntKind.i64.wrap (((i + 1 : Nat) : Int) + 1))), _, _])] = _; rw [hwr2]; rfl) rfl rfl (lowH_rsr 0 _ _) (lowH_rsr 0 _ _) (ren_cAV _ _) rfl) rfl ?_
              repeat (first | refine wk hT rfl rfl ?_ | refine wd hT rfl rfl rfl ?_ | refine wz hT rfl ?_ | refine AWd_nil ?_ | refine AWk_nil ?_ | refine wh hT rfl rfl rfl rfl ?_ | refine wg hT rfl rfl rfl rfl rfl ?_ | refine AW_seq ?_ | refine AW_region ?_ | refine wx mixed ?_ | refine AW_block ?_ | refine AW_skip ?_ | refine AW_exit ?_ | refine AW_ret ?_)
              refine AWk_op (callS1 rfl rfl htake [1] (by decide) rfl rfl rfl (lowH_rsr 0 _ _) (lowH_rsr 0 _ _) rfl rfl) rfl ?_
              repeat (first | refine wk hT rfl rfl ?_ | refine wd hT rfl rfl rfl ?_ | refine wz hT rfl ?_ | refine AWd_nil ?_ | refine AWk_nil ?_ | refine wh hT rfl rfl rfl rfl ?_ | refine wg hT rfl rfl rfl rfl rfl ?_ | refine AW_seq ?_ | refine AW_region ?_ | refine wx mixed ?_ | refine AW_block ?_ | refine AW_skip ?_ | refine AW_exit ?_ | refine AW_ret ?_)
              refine AWk_op (append_right (i := 3) hT rfl rfl rfl rfl rfl rfl (by show ((encRs l).length + 1) * (64 + 1) ≤ 140737488355328; simp [encRs]; omega)) rfl ?_
              repeat (first | refine wk hT rfl rfl ?_ | refine wd hT rfl rfl rfl ?_ | refine wz hT rfl ?_ | refine AWd_nil ?_ | refine AWk_nil ?_ | refine wh hT rfl rfl rfl rfl ?_ | refine wg hT rfl rfl rfl rfl rfl ?_ | refine AW_seq ?_ | refine AW_region ?_ | refine wx mixed ?_ | refine AW_block ?_ | refine AW_skip ?_ | refine AW_exit ?_ | refine AW_ret ?_)
              refine ⟨(l ++ [.mk (sIdx vds (peekR ws ⟨i, en, bad⟩) + 1) false (.mk ck cc cv kids)], s3), [.dead], ⟨by simp only [List.length_append, List.length_cons, List.length_nil]; omega, ?_, m, by simp only; omega, j5⟩, by simp only; omega, ⟨.refl _, .refl _, .refl _, .refl _, trivial⟩, ⟨ObLe.refl _, ObLe.refl _, ?_, ?_, trivial, trivial⟩, Env.below_mono hE (by simp), rfl, ?_⟩
              · intro r hr
                rcases List.mem_append.1 hr with hr | hr
                · exact j3 r hr
                · simp at hr; subst hr; exact r3
              · simp only [encRs_append]; exact ObLe.refl _
              · simp only [encRs_append, List.length_append]; exact ObLe.refl _
              · simp only [lowH, lowO, low_rsr]; rfl
            · have h4' : ¬ peekR ws (RS.inc ⟨i, en, bad⟩) = ifW := by simpa [ifW] using h4
              rw [ruleR, if_neg h4'] at j5 r1 r2 r3
              simp only at j5 r1 r2 r3
              have htake := take_spec ws (RS.inc ⟨i, en, bad⟩) scW (by show i + 1 ≤ _; omega)
              generalize takeR ws (RS.inc ⟨i, en, bad⟩) scW = s3 at htake j5 r1 r2
              repeat (first | refine AW_exit ?_ | refine AW_skip ?_)
              refine AW_subL (l := [(2, .ptr 0 0), (6, .d (.int .i64 bro)), (7, .ptr 1 0), (8, .ptr 2 0), (9, .ptr 4 0)]) (h' := [.row [.sl 6 [] .full], .row (rsr ws (RS.inc ⟨i, en, bad⟩)), .row [.sl 6 (encRs l) (.right 3)], .right 6 (encRs l).length, .row [.d (.int .i64 (sIdx vds (peekR ws ⟨i, en, bad⟩) + 1)), .d (.bool true), .d (.int .i64 0), .d (.int .i64 0), .d (.int .i64 0), .d (.sl 4 [])]]) ⟨.refl _, .refl _, .refl _, .refl _, .refl _, trivial⟩ ⟨ObLe.refl _, ObLe.refl _, ObLe.refl _, ObLe.refl _, ⟨.refl _, .refl _, .refl _, .refl _, .refl _, AV.le.dat, trivial⟩, trivial⟩ ?_
              repeat (first | refine wk hT rfl rfl ?_ | refine wd hT rfl rfl rfl ?_ | refine wz hT rfl ?_ | refine AWd_nil ?_ | refine AWk_nil ?_ | refine wh hT rfl rfl rfl rfl ?_ | refine wg hT rfl rfl rfl rfl rfl ?_ | refine AW_seq ?_ | refine AW_region ?_ | refine wx mixed ?_ | refine AW_block ?_ | refine AW_skip ?_ | refine AW_exit ?_ | refine AW_ret ?_)
              refine AWk_op (callS1 rfl rfl htake [1] (by decide) rfl rfl rfl (lowH_rsr 0 _ _) (lowH_rsr 0 _ _) rfl rfl) rfl ?_
              repeat (first | refine wk hT rfl rfl ?_ | refine wd hT rfl rfl rfl ?_ | refine wz hT rfl ?_ | refine AWd_nil ?_ | refine AWk_nil ?_ | refine wh hT rfl rfl rfl rfl ?_ | refine wg hT rfl rfl rfl rfl rfl ?_ | refine AW_seq ?_ | refine AW_region ?_ | refine wx mixed ?_ | refine AW_block ?_ | refine AW_skip ?_ | refine AW_exit ?_ | refine AW_ret ?_)
              refine AWk_op (append_right (i := 3) hT rfl rfl rfl rfl rfl rfl (by show ((encRs l).length + 1) * (64 + 1) ≤ 140737488355328; simp [encRs]; omega)) rfl ?_
              repeat (first | refine wk hT rfl rfl ?_ | refine wd hT rfl rfl rfl ?_ | refine wz hT rfl ?_ | refine AWd_nil ?_ | refine AWk_nil ?_ | refine wh hT rfl rfl rfl rfl ?_ | refine wg hT rfl rfl rfl rfl rfl ?_ | refine AW_seq ?_ | refine AW_region ?_ | refine wx mixed ?_ | refine AW_block ?_ | refine AW_skip ?_ | refine AW_exit ?_ | refine AW_ret ?_)
              refine ⟨(l ++ [.mk (sIdx vds (peekR ws ⟨i, en, bad⟩) + 1) true (.mk 0 0 0 [])], s3), [.dead], ⟨by simp only [List.length_append, List.length_cons, List.length_nil]; omega, ?_, m, by simp only; omega, j5⟩, by simp only; omega, ⟨.refl _, .refl _, .refl _, .refl _, trivial⟩, ⟨ObLe.refl _, ObLe.refl _, ?_, ?_, trivial, trivial⟩, Env.below_mono hE (by simp), rfl, ?_⟩
              · intro r hr
                rcases List.mem_append.1 hr with hr | hr
                · exact j3 r hr
                · simp at hr; subst hr; exact r3
              · simp only [encRs_append]; exact ObLe.refl _
              · simp only [encRs_append, List.length_append]; exact ObLe.refl _
              · simp only [lowH, lowO, low_rsr]; rfl
        · have h2' : ¬ (bad < 0 ∧ i < ws.length) := by
            rw [hwsl] at h2
            intro hh
            rw [show (decide (bad < 0) && decide ((i : Int) < (ws.length : Int))) = true by simpa using hh] at h2
            cases h2
          rw [if_neg h2'] at j5
          repeat (first | refine wk hT rfl rfl ?_ | refine wd hT rfl rfl rfl ?_ | refine wz hT rfl ?_ | refine AWd_nil ?_ | refine AWk_nil ?_ | refine wh hT rfl rfl rfl rfl ?_ | refine wg hT rfl rfl rfl rfl rfl ?_ | refine AW_seq ?_ | refine AW_region ?_ | refine wx mixed ?_ | refine AW_block ?_ | refine AW_skip ?_ | refine AW_exit ?_ | refine AW_ret ?_)
          refine ⟨(l, ⟨i, en, bad⟩), [], ⟨j5, j3⟩, ⟨.refl _, .refl _, .refl _, .refl _, trivial⟩, ⟨ObLe.refl _, ObLe.refl _, ⟨AV.le.dat, trivial⟩, trivial, trivial⟩, Env.below_mono hE (by simp), rfl, rfl⟩
      · rintro ⟨l, s⟩ ⟨hx, hsm⟩
        subst hx
        have hv := ValidR_spec l hsm
        obtain ⟨i, en, bad⟩ := s
        simp only at hv ⊢
        repeat (first | refine wk hT rfl rfl ?_ | refine wd hT rfl rfl rfl ?_ | refine wz hT rfl ?_ | refine AWd_nil ?_ | refine AWk_nil ?_ | refine wh hT rfl rfl rfl rfl ?_ | refine wg hT rfl rfl rfl rfl rfl ?_ | refine AW_seq ?_ | refine AW_region ?_ | refine wx mixed ?_ | refine AW_block ?_ | refine AW_skip ?_ | refine AW_exit ?_ | refine AW_ret ?_)
        refine AW_condL rfl (fun h2 => ?_) (fun h2 => ?_)
        · have h2' : bad < 0 := by simpa using h2
          have hbr : badR (ws, bro) ⟨i, en, bad⟩ = bro := by rw [badR, if_pos h2']
          rw [hbr]
          repeat (first | refine wk hT rfl rfl ?_ | refine wd hT rfl rfl rfl ?_ | refine wz hT rfl ?_ | refine AWd_nil ?_ | refine AWk_nil ?_ | refine wh hT rfl rfl rfl rfl ?_ | refine wg hT rfl rfl rfl rfl rfl ?_ | refine AW_seq ?_ | refine AW_region ?_ | refine wx mixed ?_ | refine AW_block ?_ | refine AW_skip ?_ | refine AW_exit ?_ | refine AW_ret ?_)
          refine AW_condL rfl (fun h3 => ?_) (fun h3 => ?_)
          · have h3' : 0 ≤ bro := by simpa using h3
            rw [if_pos h3']
            refine AW_seq ?_
            refine AW_drawG (fun i => bif Nat.beq i 4 then [1] else bif Nat.beq i 5 then [0] else []) (fun i => bif Nat.beq i 5 then [0] else []) mixed (by kernel_rfl) ?_
            repeat (first | refine AWg_load hT rfl rfl rfl rfl (by first | exact List.mem_cons_self | exact sm) rfl ?_ | refine AWg_pure hT (fun _ => rfl) rfl rfl (by first | exact True.intro | omega | exact sd) ?_ | refine AWg_store hT rfl rfl rfl (by first | exact List.mem_cons_self | exact sm) rfl ?_ | refine AWd_nil ?_)
            repeat (first | refine wk hT rfl rfl ?_ | refine wd hT rfl rfl rfl ?_ | refine wz hT rfl ?_ | refine AWd_nil ?_ | refine AWk_nil ?_ | refine wh hT rfl rfl rfl rfl ?_ | refine wg hT rfl rfl rfl rfl rfl ?_ | refine AW_seq ?_ | refine AW_region ?_ | refine wx mixed ?_ | refine AW_block ?_ | refine AW_skip ?_ | refine AW_exit ?_ | refine AW_ret ?_)
            exact ret_exact (r := .tup [polAV [], .d (.int .i64 bro), .d (.int .i64 71)]) rfl (AV.le.tup ⟨AV.le.agg ⟨AV.le.dat, trivial⟩, .refl _, .refl _, trivial⟩) rfl rfl rfl rfl ⟨rfl, rfl⟩
          · have h3' : ¬ 0 ≤ bro := by simpa using h3
            rw [if_neg h3']
            repeat (first | refine wk hT rfl rfl ?_ | refine wd hT rfl rfl rfl ?_ | refine wz hT rfl ?_ | refine AWd_nil ?_ | refine AWk_nil ?_ | refine wh hT rfl rfl rfl rfl ?_ | refine wg hT rfl rfl rfl rfl rfl ?_ | refine AW_seq ?_ | refine AW_region ?_ | refine wx mixed ?_ | refine AW_block ?_ | refine AW_skip ?_ | refine AW_exit ?_ | refine AW_ret ?_)
            refine AWk_op (callS0 rfl rfl hv rfl rfl rfl) rfl ?_
            repeat (first | refine wk hT rfl rfl ?_ | refine wd hT rfl rfl rfl ?_ | refine wz hT rfl ?_ | refine AWd_nil ?_ | refine AWk_nil ?_ | refine wh hT rfl rfl rfl rfl ?_ | refine wg hT rfl rfl rfl rfl rfl ?_ | refine AW_seq ?_ | refine AW_region ?_ | refine wx mixed ?_ | refine AW_block ?_ | refine AW_skip ?_ | refine AW_exit ?_ | refine AW_ret ?_)
            refine AW_condL rfl (fun h4 => ?_) (fun h4 => ?_)
            · have h4' : validPol l ≠ 0 := by simpa using h4
              rw [if_pos h4']
              repeat (first | refine wk hT rfl rfl ?_ | refine wd hT rfl rfl rfl ?_ | refine wz hT rfl ?_ | refine AWd_nil ?_ | refine AWk_nil ?_ | refine wh hT rfl rfl rfl rfl ?_ | refine wg hT rfl rfl rfl rfl rfl ?_ | refine AW_seq ?_ | refine AW_region ?_ | refine wx mixed ?_ | refine AW_block ?_ | refine AW_skip ?_ | refine AW_exit ?_ | refine AW_ret ?_)
              exact ret_exact (r := .tup [polAV [], .d (.int .i64 0), .d (.int .i64 72)]) rfl (AV.le.tup ⟨AV.le.agg ⟨AV.le.dat, trivial⟩, .refl _, .refl _, trivial⟩) rfl rfl rfl rfl ⟨rfl, rfl⟩
            · have h4' : ¬ validPol l ≠ 0 := by simpa using h4
              rw [if_neg h4']
              repeat (first | refine wk hT rfl rfl ?_ | refine wd hT rfl rfl rfl ?_ | refine wz hT rfl ?_ | refine AWd_nil ?_ | refine AWk_nil ?_ | refine wh hT rfl rfl rfl rfl ?_ | refine wg hT rfl rfl rfl rfl rfl ?_ | refine AW_seq ?_ | refine AW_region ?_ | refine wx mixed ?_ | refine AW_block ?_ | refine AW_skip ?_ | refine AW_exit ?_ | refine AW_ret ?_)
              exact ret_exact (r := .tup [polAV l, .d (.int .i64 0), .d (.int .i64 0)]) rfl (AV.le.tup ⟨.refl _, .refl _, .refl _, trivial⟩) rfl rfl rfl rfl ⟨rfl, rfl⟩
        · have h2' : ¬ bad < 0 := by simpa using h2
          have hbr : badR (ws, bro) ⟨i, en, bad⟩ = bad := by rw [badR, if_neg h2']
          rw [hbr, if_pos (by omega)]
          repeat (first | refine wk hT rfl rfl ?_ | refine wd hT rfl rfl rfl ?_ | refine wz hT rfl ?_ | refine AWd_nil ?_ | refine AWk_nil ?_ | refine wh hT rfl rfl rfl rfl ?_ | refine wg hT rfl rfl rfl rfl rfl ?_ | refine AW_seq ?_ | refine AW_region ?_ | refine wx mixed ?_ | refine AW_block ?_ | refine AW_skip ?_ | refine AW_exit ?_ | refine AW_ret ?_)
          refine AW_condL rfl (fun h3 => ?_) (fun h3 => by simp at h3; omega)
          refine AW_seq ?_
          refine AW_drawG (fun i => bif Nat.beq i 4 then [1] else bif Nat.beq i 5 then [0] else []) (fun i => bif Nat.beq i 5 then [0] else []) mixed (by kernel_rfl) ?_
          repeat (first | refine AWg_load hT rfl rfl rfl rfl (by first | exact List.mem_cons_self | exact sm) rfl ?_ | refine AWg_pure hT (fun _ => rfl) rfl rfl (by first | exact True.intro | omega | exact sd) ?_ | refine AWg_store hT rfl rfl rfl (by first | exact List.mem_cons_self | exact sm) rfl ?_ | refine AWd_nil ?_)
          repeat (first | refine wk hT rfl rfl ?_ | refine wd hT rfl rfl rfl ?_ | refine wz hT rfl ?_ | refine AWd_nil ?_ | refine AWk_nil ?_ | refine wh hT rfl rfl rfl rfl ?_ | refine wg hT rfl rfl rfl rfl rfl ?_ | refine AW_seq ?_ | refine AW_region ?_ | refine wx mixed ?_ | refine AW_block ?_ | refine AW_skip ?_ | refine AW_exit ?_ | refine AW_ret ?_)
          exact ret_exact (r := .tup [polAV [], .d (.int .i64 bad), .d (.int .i64 71)]) rfl (AV.le.tup ⟨AV.le.agg ⟨AV.le.dat, trivial⟩, .refl _, .refl _, trivial⟩) rfl rfl rfl rfl ⟨rfl, rfl⟩
end Tdoc
/- Package policy: results of checks, and the first that a condition names. -/
set_option linter.unusedVariables false
set_option linter.unusedSimpArgs false
namespace Tdoc
open Go Go.Proofs

abbrev Res := Int × Int
def encRe (r : Res) : List Dat := [.int .i64 r.1, .int .i64 r.2]
def encRes (l : List Res) : List (List Dat) := l.map encRe
theorem encRes_length (l : List Res) : (encRes l).length = l.length := by simp [encRes]
def reAV (r : Res) : AV := .agg ((encRe r).map .d)

/-- The index of a check's first result, or -1. -/
def resIdx (ch : Int) (l : List Res) : Int := fIdx (fun r => r.1 == ch) l

set_option maxRecDepth 100000 in
theorem forced1_spec (k c v : Int) (kids : List Cond) (r : Res) : Spec Tryz.prog 100 ([] ++ ([reAV r] ++ [.ptr 0 0])) [.row ((encC (.mk k c v kids)).map .d)] (fun a h' => a = .d (.bool (r.1 == c)) ∧ h' = [.row ((encC (.mk k c v kids)).map .d)]) := by
  obtain ⟨a, b⟩ := r
  refine Spec_of_body hT Tryz.func100 rfl rfl rfl rfl ?_
  intro E hE
  repeat (first | refine wk hT rfl rfl ?_ | refine wd hT rfl rfl rfl ?_ | refine wz hT rfl ?_ | refine AWd_nil ?_ | refine AWk_nil ?_ | refine wh hT rfl rfl rfl rfl ?_ | refine wg hT rfl rfl rfl rfl rfl ?_ | refine AW_seq ?_ | refine AW_region ?_ | refine wx mixed ?_ | refine AW_block ?_ | refine AW_skip ?_ | refine AW_exit ?_ | refine AW_ret ?_)
  exact ret_exact rfl (.refl _) rfl rfl rfl rfl ⟨rfl, rfl⟩

set_option maxRecDepth 100000 in
theorem IndexFuncR_spec {l : List Res} {g : FuncId} {k c v : Int} {kids : List Cond}
    (hp : ∀ r : Res, Spec Tryz.prog g ([] ++ ([reAV r] ++ [.ptr 0 0])) [.row ((encC (.mk k c v kids)).map .d)] (fun a h' => a = .d (.bool (r.1 == c)) ∧ h' = [.row ((encC (.mk k c v kids)).map .d)])) (hl : l.length ≤ 1000000000) :
    Spec Tryz.prog 99 [.d (.sl 2 (encRes l)), .fn (.func g) [] [.ptr 0 0]] [.row ((encC (.mk k c v kids)).map .d)] (fun r h' => r = .d (.int .i64 (resIdx c l)) ∧ h' = [.row ((encC (.mk k c v kids)).map .d)]) := by
  refine Spec_of_body hT Tryz.func99 rfl rfl rfl rfl ?_
  intro E hE
  have hlen := encRes_length l
  repeat (first | refine wk hT rfl rfl ?_ | refine wd hT rfl rfl rfl ?_ | refine wz hT rfl ?_ | refine AWd_nil ?_ | refine AWk_nil ?_ | refine wh hT rfl rfl rfl rfl ?_ | refine wg hT rfl rfl rfl rfl rfl ?_ | refine AW_seq ?_ | refine AW_region ?_ | refine wx mixed ?_ | refine AW_block ?_ | refine AW_skip ?_ | refine AW_exit ?_ | refine AW_ret ?_)
  refine AW_loopL (ι := Nat) (fun j => [(0, .d (.sl 2 (encRes l))), (1, .fn (.func g) [] [.ptr 0 0]), (7, .d (.int .i64 (encRes l).length)), (8, .d (.int .i64 j))]) (fun _ => [.row ((encC (.mk k c v kids)).map .d)]) (fun j => j ≤ l.length ∧ ∀ i, (hi : i < j) → (hi2 : i < l.length) → (l[i].1 == c) = false) (fun j => l.length - j) 0
    ⟨by omega, fun j hj => by omega⟩ ⟨.refl _, .refl _, .refl _, .refl _, trivial⟩ (HLe.refl _) ?_
  intro j ⟨hj, hb⟩
  repeat (first | refine wk hT rfl rfl ?_ | refine wd hT rfl rfl rfl ?_ | refine wz hT rfl ?_ | refine AWd_nil ?_ | refine AWk_nil ?_ | refine wh hT rfl rfl rfl rfl ?_ | refine wg hT rfl rfl rfl rfl rfl ?_ | refine AW_seq ?_ | refine AW_region ?_ | refine wx mixed ?_ | refine AW_block ?_ | refine AW_skip ?_ | refine AW_exit ?_ | refine AW_ret ?_)
  refine AW_condL rfl (fun h1' => ?_) (fun h1' => ?_)
  · have hlt : j < l.length := by rw [hlen] at h1'; simpa using h1'
    have hel : (encRes l)[((j : Int)).toNat]? = some (encRe l[j]) := by simp [encRes, hlt]
    have hpk := hp l[j]
    generalize hc : l[j] = r at hel hpk
    obtain ⟨ra, rb⟩ := r
    repeat (first | refine wk hT rfl rfl ?_ | refine wd hT rfl rfl rfl ?_ | refine wz hT rfl ?_ | refine AWd_nil ?_ | refine AWk_nil ?_ | refine wh hT rfl rfl rfl rfl ?_ | refine wg hT rfl rfl rfl rfl rfl ?_ | refine AW_seq ?_ | refine AW_region ?_ | refine wx mixed ?_ | refine AW_block ?_ | refine AW_skip ?_ | refine AW_exit ?_ | refine AW_ret ?_)
    refine AWk_op (OpS_of_pure (indexAddr_ok hT rfl rfl rfl rfl (by omega) hel)) rfl ?_
    repeat (first | refine wk hT rfl rfl ?_ | refine wd hT rfl rfl rfl ?_ | refine wz hT rfl ?_ | refine AWd_nil ?_ | refine AWk_nil ?_ | refine wh hT rfl rfl rfl rfl ?_ | refine wg hT rfl rfl rfl rfl rfl ?_ | refine AW_seq ?_ | refine AW_region ?_ | refine wx mixed ?_ | refine AW_block ?_ | refine AW_skip ?_ | refine AW_exit ?_ | refine AW_ret ?_)
    refine AWk_op (callS1 rfl rfl hpk [0] (by decide) rfl rfl rfl rfl rfl rfl rfl) rfl ?_
    repeat (first | refine wk hT rfl rfl ?_ | refine wd hT rfl rfl rfl ?_ | refine wz hT rfl ?_ | refine AWd_nil ?_ | refine AWk_nil ?_ | refine wh hT rfl rfl rfl rfl ?_ | refine wg hT rfl rfl rfl rfl rfl ?_ | refine AW_seq ?_ | refine AW_region ?_ | refine wx mixed ?_ | refine AW_block ?_ | refine AW_skip ?_ | refine AW_exit ?_ | refine AW_ret ?_)
    refine AW_condL rfl (fun h2' => ?_) (fun h2' => ?_)
    · repeat (first | refine wk hT rfl rfl ?_ | refine wd hT rfl rfl rfl ?_ | refine wz hT rfl ?_ | refine AWd_nil ?_ | refine AWk_nil ?_ | refine wh hT rfl rfl rfl rfl ?_ | refine wg hT rfl rfl rfl rfl rfl ?_ | refine AW_seq ?_ | refine AW_region ?_ | refine wx mixed ?_ | refine AW_block ?_ | refine AW_skip ?_ | refine AW_exit ?_ | refine AW_ret ?_)
      refine ret_exact rfl (.refl _) rfl rfl rfl rfl ⟨?_, rfl⟩
      show AV.d (.int .i64 (j : Int)) = _
      rw [resIdx, fIdx_at hlt (by rw [hc]; exact h2') (fun i hi hi2 => hb i hi hi2)]
    · repeat (first | refine wk hT rfl rfl ?_ | refine wd hT rfl rfl rfl ?_ | refine wz hT rfl ?_ | refine AWd_nil ?_ | refine AWk_nil ?_ | refine wh hT rfl rfl rfl rfl ?_ | refine wg hT rfl rfl rfl rfl rfl ?_ | refine AW_seq ?_ | refine AW_region ?_ | refine wx mixed ?_ | refine AW_block ?_ | refine AW_skip ?_ | refine AW_exit ?_ | refine AW_ret ?_)
      refine ⟨j + 1, ⟨by omega, fun i hi hi2 => ?_⟩, by omega, ⟨.refl _, .refl _, .refl _, AV.le.eq ?_, trivial⟩, HLe.refl _⟩
      · by_cases hij : i = j
        · subst hij; rw [hc]; exact h2'
        · exact hb i (by omega) hi2
      · show AV.d (.int .i64 (IntKind.i64.wrap ((j : Int) + 1))) = _
        rw [wrap_id (by omega)]; rfl
  · have hge : j = l.length := by rw [hlen] at h1'; simp at h1'; omega
    repeat (first | refine wk hT rfl rfl ?_ | refine wd hT rfl rfl rfl ?_ | refine wz hT rfl ?_ | refine AWd_nil ?_ | refine AWk_nil ?_ | refine wh hT rfl rfl rfl rfl ?_ | refine wg hT rfl rfl rfl rfl rfl ?_ | refine AW_seq ?_ | refine AW_region ?_ | refine wx mixed ?_ | refine AW_block ?_ | refine AW_skip ?_ | refine AW_exit ?_ | refine AW_ret ?_)
    refine ret_exact rfl (.refl _) rfl rfl rfl rfl ⟨?_, rfl⟩
    show AV.d (.int .i64 (-1)) = _
    rw [resIdx, fIdx_none (fun i hi => hb i (by omega) hi)]

/-- What results say: the first result of a check, if any. -/
def valOf (ch : Int) (l : List Res) : Option Int := (l.find? fun r => r.1 == ch).map (·.2)

theorem resIdx_some {ch : Int} {l : List Res} {x : Int} (h : valOf ch l = some x) : ∃ i : Nat, ∃ h : i < l.length, resIdx ch l = i ∧ l[i].2 = x := by
  unfold valOf at h
  cases hf : l.find? fun r => r.1 == ch with
  | none => rw [hf] at h; cases h
  | some r =>
    rw [hf] at h
    obtain ⟨h1, i, hi, h2, h3⟩ := List.find?_eq_some_iff_getElem.1 hf
    refine ⟨i, hi, ?_, by rw [h2]; simpa using h⟩
    exact fIdx_at hi (by rw [h2]; exact h1) (fun j hj hj2 => by simpa using h3 j hj)
theorem resIdx_none {ch : Int} {l : List Res} (h : valOf ch l = none) : resIdx ch l = -1 := by
  unfold valOf at h
  rw [Option.map_eq_none_iff, List.find?_eq_none] at h
  exact fIdx_none fun j hj => by simpa using h l[j] (List.getElem_mem hj)
end Tdoc
/- Package policy: what is certain about a condition. -/
set_option linter.unusedVariables false
set_option linter.unusedSimpArgs false
namespace Tdoc
open Go Go.Proofs

def foldF (one : Int) : Int → List Int → Int
  | all, [] => all
  | all, f :: r => if f = one then one else foldF one (if f = 0 then 0 else all) r

def isF (v : Int) : Option Int → Int
  | none => 0
  | some x => if x = v then 1 else 2
def notF : List Int → Int
  | [] => 0
  | f :: _ => Int.tmod (3 - f) 3

def forcedF (l : List Res) : Nat → Cond → Int
  | 0, _ => 0
  | d + 1, .mk k c v kids =>
    if k = 1 then isF v (valOf c l) else if k = 2 then notF (kids.map fun x => forcedF l d x)
    else foldF (if k = 4 then 1 else 2) (if k = 4 then 2 else 1) (kids.map fun x => forcedF l d x)

theorem foldF_range {one : Int} (h1 : 0 ≤ one ∧ one ≤ 2) : ∀ (r : List Int) (all : Int), 0 ≤ all ∧ all ≤ 2 → 0 ≤ foldF one all r ∧ foldF one all r ≤ 2
  | [], all, h => h
  | f :: r, all, h => by
    rw [foldF]
    split
    · exact h1
    · exact foldF_range h1 r _ (by split <;> omega)

theorem forcedF_range (l : List Res) : ∀ (d : Nat) (c : Cond), 0 ≤ forcedF l d c ∧ forcedF l d c ≤ 2
  | 0, c => by simp [forcedF]
  | d + 1, .mk k c v kids => by
    rw [forcedF]
    split
    · cases valOf c l with
      | none => simp [isF]
      | some x => simp only [isF]; split <;> omega
    · split
      · cases kids with
        | nil => simp [notF]
        | cons x rest =>
          have := forcedF_range l d x
          simp only [notF, List.map_cons]
          rw [Int.tmod_eq_emod_of_nonneg (by omega)]
          omega
      · exact foldF_range (by split <;> omega) _ _ (by split <;> omega)

set_option maxHeartbeats 8000000 in
set_option maxRecDepth 100000 in
theorem forced_spec (l : List Res) (hl : l.length ≤ 1000000) : ∀ (d : Nat) (c : Cond), validC d c = true → smallC c → Spec Tryz.prog 82 [cAV c, .d (.sl 2 (encRes l))] [] (fun r h' => r = .d (.int .i64 (forcedF l d c)) ∧ h' = [])
  | 0, c, hv, _ => by simp [validC] at hv
  | d + 1, .mk k c v kids, hv, hs => by
    have hlen := encCs_length kids
    have hs1 := hs.1
    have ih : ∀ x, x ∈ kids → validC d x = true → Spec Tryz.prog 82 [cAV x, .d (.sl 2 (encRes l))] [] (fun r h' => r = .d (.int .i64 (forcedF l d x)) ∧ h' = []) := fun x hx hvx => forced_spec l hl d x hvx (smallCs_at hs.2 x hx)
    have hix := IndexFuncR_spec (l := l) (g := 100) (k := k) (c := c) (v := v) (kids := kids) (fun r => forced1_spec k c v kids r) (by omega)
    refine Spec_of_body hT Tryz.func82 rfl rfl rfl rfl ?_
    intro E hE
    rw [forcedF]
    repeat (first | refine wk hT rfl rfl ?_ | refine wd hT rfl rfl rfl ?_ | refine wz hT rfl ?_ | refine AWd_nil ?_ | refine AWk_nil ?_ | refine wh hT rfl rfl rfl rfl ?_ | refine wg hT rfl rfl rfl rfl rfl ?_ | refine AW_seq ?_ | refine AW_region ?_ | refine wx mixed ?_ | refine AW_block ?_ | refine AW_skip ?_ | refine AW_exit ?_ | refine AW_ret ?_)
    refine AW_condL rfl (fun hk => ?_) (fun hk => ?_)
    · have hk' : k = 1 := by simpa using hk
      rw [if_pos hk']
      repeat (first | refine wk hT rfl rfl ?_ | refine wd hT rfl rfl rfl ?_ | refine wz hT rfl ?_ | refine AWd_nil ?_ | refine AWk_nil ?_ | refine wh hT rfl rfl rfl rfl ?_ | refine wg hT rfl rfl rfl rfl rfl ?_ | refine AW_seq ?_ | refine AW_region ?_ | refine wx mixed ?_ | refine AW_block ?_ | refine AW_skip ?_ | refine AW_exit ?_ | refine AW_ret ?_)
      refine AWk_op (callS1 rfl rfl hix [0] (by decide) rfl rfl rfl rfl rfl rfl rfl) rfl ?_
      repeat (first | refine wk hT rfl rfl ?_ | refine wd hT rfl rfl rfl ?_ | refine wz hT rfl ?_ | refine AWd_nil ?_ | refine AWk_nil ?_ | refine wh hT rfl rfl rfl rfl ?_ | refine wg hT rfl rfl rfl rfl rfl ?_ | refine AW_seq ?_ | refine AW_region ?_ | refine wx mixed ?_ | refine AW_block ?_ | refine AW_skip ?_ | refine AW_exit ?_ | refine AW_ret ?_)
      cases hvo : valOf c l with
      | none =>
        rw [resIdx_none hvo]
        refine AW_condL rfl (fun _ => ?_) (fun hf => by simp at hf)
        repeat (first | refine wk hT rfl rfl ?_ | refine wd hT rfl rfl rfl ?_ | refine wz hT rfl ?_ | refine AWd_nil ?_ | refine AWk_nil ?_ | refine wh hT rfl rfl rfl rfl ?_ | refine wg hT rfl rfl rfl rfl rfl ?_ | refine AW_seq ?_ | refine AW_region ?_ | refine wx mixed ?_ | refine AW_block ?_ | refine AW_skip ?_ | refine AW_exit ?_ | refine AW_ret ?_)
        exact ret_exact rfl (.refl _) rfl rfl rfl rfl ⟨rfl, rfl⟩
      | some x =>
        obtain ⟨i, hi, h1, h2⟩ := resIdx_some hvo
        rw [h1]
        have hel : (encRes l)[((i : Int)).toNat]? = some [.int .i64 l[i].1, .int .i64 l[i].2] := by simp [encRes, hi, encRe]
        refine AW_condL rfl (fun hf => by simp at hf; omega) (fun _ => ?_)
        repeat (first | refine wk hT rfl rfl ?_ | refine wd hT rfl rfl rfl ?_ | refine wz hT rfl ?_ | refine AWd_nil ?_ | refine AWk_nil ?_ | refine wh hT rfl rfl rfl rfl ?_ | refine wg hT rfl rfl rfl rfl rfl ?_ | refine AW_seq ?_ | refine AW_region ?_ | refine wx mixed ?_ | refine AW_block ?_ | refine AW_skip ?_ | refine AW_exit ?_ | refine AW_ret ?_)
        refine AWd_op (OpS_of_pure (indexAddr_ok hT rfl rfl rfl rfl (by omega) hel)) rfl rfl ?_
        repeat (first | refine wk hT rfl rfl ?_ | refine wd hT rfl rfl rfl ?_ | refine wz hT rfl ?_ | refine AWd_nil ?_ | refine AWk_nil ?_ | refine wh hT rfl rfl rfl rfl ?_ | refine wg hT rfl rfl rfl rfl rfl ?_ | refine AW_seq ?_ | refine AW_region ?_ | refine wx mixed ?_ | refine AW_block ?_ | refine AW_skip ?_ | refine AW_exit ?_ | refine AW_ret ?_)
        refine AW_condL rfl (fun h3 => ?_) (fun h3 => ?_)
        · have h3' : x = v := by rw [h2] at h3; simpa using h3
          repeat (first | refine wk hT rfl rfl ?_ | refine wd hT rfl rfl rfl ?_ | refine wz hT rfl ?_ | refine AWd_nil ?_ | refine AWk_nil ?_ | refine wh hT rfl rfl rfl rfl ?_ | refine wg hT rfl rfl rfl rfl rfl ?_ | refine AW_seq ?_ | refine AW_region ?_ | refine wx mixed ?_ | refine AW_block ?_ | refine AW_skip ?_ | refine AW_exit ?_ | refine AW_ret ?_)
          exact ret_exact rfl (.refl _) rfl rfl rfl rfl ⟨by rw [isF, if_pos h3']; rfl, rfl⟩
        · have h3' : ¬ x = v := by rw [h2] at h3; simpa using h3
          repeat (first | refine wk hT rfl rfl ?_ | refine wd hT rfl rfl rfl ?_ | refine wz hT rfl ?_ | refine AWd_nil ?_ | refine AWk_nil ?_ | refine wh hT rfl rfl rfl rfl ?_ | refine wg hT rfl rfl rfl rfl rfl ?_ | refine AW_seq ?_ | refine AW_region ?_ | refine wx mixed ?_ | refine AW_block ?_ | refine AW_skip ?_ | refine AW_exit ?_ | refine AW_ret ?_)
          exact ret_exact rfl (.refl _) rfl rfl rfl rfl ⟨by rw [isF, if_neg h3']; rfl, rfl⟩
    · have hk1 : ¬ k = 1 := by simpa using hk
      rw [if_neg hk1]
      rw [validC, if_neg hk1] at hv
      have hcv : ¬ (c ≠ 0 ∨ v ≠ 0) := by intro hh; rw [if_pos hh] at hv; cases hv
      rw [if_neg hcv] at hv
      repeat (first | refine wk hT rfl rfl ?_ | refine wd hT rfl rfl rfl ?_ | refine wz hT rfl ?_ | refine AWd_nil ?_ | refine AWk_nil ?_ | refine wh hT rfl rfl rfl rfl ?_ | refine wg hT rfl rfl rfl rfl rfl ?_ | refine AW_seq ?_ | refine AW_region ?_ | refine wx mixed ?_ | refine AW_block ?_ | refine AW_skip ?_ | refine AW_exit ?_ | refine AW_ret ?_)
      refine AW_condL rfl (fun hk2 => ?_) (fun hk2 => ?_)
      · have hk2' : k = 2 := by simpa using hk2
        rw [if_pos hk2'] at hv ⊢
        cases kids with
        | nil => simp at hv
        | cons x rest =>
          have hvx : validC d x = true := by
            rw [Bool.and_eq_true] at hv
            have h9 := hv.2
            simp at h9
            exact h9.1
          have hx := ih x List.mem_cons_self hvx
          have hr := forcedF_range l d x
          have hel : (encCs (x :: rest))[((0 : Int)).toNat]? = some (encC x) := by simp [encCs]
          rw [List.map_cons, notF]
          generalize forcedF l d x = f at hx hr
          obtain ⟨xk, xc, xv, xkids⟩ := x
          repeat (first | refine wk hT rfl rfl ?_ | refine wd hT rfl rfl rfl ?_ | refine wz hT rfl ?_ | refine AWd_nil ?_ | refine AWk_nil ?_ | refine wh hT rfl rfl rfl rfl ?_ | refine wg hT rfl rfl rfl rfl rfl ?_ | refine AW_seq ?_ | refine AW_region ?_ | refine wx mixed ?_ | refine AW_block ?_ | refine AW_skip ?_ | refine AW_exit ?_ | refine AW_ret ?_)
          refine AWk_op (OpS_of_pure (indexAddr_ok hT rfl rfl rfl rfl (by decide) hel)) rfl ?_
          repeat (first | refine wk hT rfl rfl ?_ | refine wd hT rfl rfl rfl ?_ | refine wz hT rfl ?_ | refine AWd_nil ?_ | refine AWk_nil ?_ | refine wh hT rfl rfl rfl rfl ?_ | refine wg hT rfl rfl rfl rfl rfl ?_ | refine AW_seq ?_ | refine AW_region ?_ | refine wx mixed ?_ | refine AW_block ?_ | refine AW_skip ?_ | refine AW_exit ?_ | refine AW_ret ?_)
          refine AWk_op (callS0 rfl rfl hx rfl rfl rfl) rfl ?_
          repeat (first | refine wk hT rfl rfl ?_ | refine wd hT rfl rfl rfl ?_ | refine wz hT rfl ?_ | refine AWd_nil ?_ | refine AWk_nil ?_ | refine wh hT rfl rfl rfl rfl ?_ | refine wg hT rfl rfl rfl rfl rfl ?_ | refine AW_seq ?_ | refine AW_region ?_ | refine wx mixed ?_ | refine AW_block ?_ | refine AW_skip ?_ | refine AW_exit ?_ | refine AW_ret ?_)
          rcases (by omega : f = 0 ∨ f = 1 ∨ f = 2) with rfl | rfl | rfl <;> exact ret_exact rfl (.refl _) rfl rfl rfl rfl ⟨rfl, rfl⟩
      · have hk2' : ¬ k = 2 := by simpa using hk2
        rw [if_neg hk2'] at hv ⊢
        have hk34 : k = 3 ∨ k = 4 := by
          by_cases hh : k = 3 ∨ k = 4
          · exact hh
          · rw [if_neg hh] at hv; cases hv
        rw [if_pos hk34] at hv
        have hall : ∀ x, x ∈ kids → validC d x = true := by
          rw [Bool.and_eq_true] at hv
          have h9 := hv.2
          simpa using h9
        repeat (first | refine wk hT rfl rfl ?_ | refine wd hT rfl rfl rfl ?_ | refine wz hT rfl ?_ | refine AWd_nil ?_ | refine AWk_nil ?_ | refine wh hT rfl rfl rfl rfl ?_ | refine wg hT rfl rfl rfl rfl rfl ?_ | refine AW_seq ?_ | refine AW_region ?_ | refine wx mixed ?_ | refine AW_block ?_ | refine AW_skip ?_ | refine AW_exit ?_ | refine AW_ret ?_)
        refine AW_cutA [(1, .d (.sl 2 (encRes l))), (2, .ptr 0 0), (6, .d (.int .i64 (if k = 4 then 1 else 2))), (7, .d (.int .i64 (if k = 4 then 2 else 1)))] [.row [.d (.int .i64 k), .d (.int .i64 c), .d (.int .i64 v), .d (.sl 4 (encCs kids))]] ?_ ?_
        · refine AW_condL rfl (fun h4 => ?_) (fun h4 => ?_)
          · have h4' : k = 4 := by simpa using h4
            repeat (first | refine wk hT rfl rfl ?_ | refine wd hT rfl rfl rfl ?_ | refine wz hT rfl ?_ | refine AWd_nil ?_ | refine AWk_nil ?_ | refine wh hT rfl rfl rfl rfl ?_ | refine wg hT rfl rfl rfl rfl rfl ?_ | refine AW_seq ?_ | refine AW_region ?_ | refine wx mixed ?_ | refine AW_block ?_ | refine AW_skip ?_ | refine AW_exit ?_ | refine AW_ret ?_)
            exact ⟨⟨.refl _, .refl _, AV.le.eq (by rw [if_pos h4']; rfl), AV.le.eq (by rw [if_pos h4']; rfl), trivial⟩, HLe.refl _⟩
          · have h4' : ¬ k = 4 := by simpa using h4
            repeat (first | refine AW_exit ?_ | refine AW_skip ?_)
            exact ⟨⟨.refl _, .refl _, AV.le.eq (by rw [if_neg h4']; rfl), AV.le.eq (by rw [if_neg h4']; rfl), trivial⟩, HLe.refl _⟩
        · generalize (if k = 4 then (1 : Int) else 2) = one
          generalize (if k = 4 then (2 : Int) else 1) = all
          generalize hfin : foldF one all (kids.map fun x => forcedF l d x) = fin
          repeat (first | refine wk hT rfl rfl ?_ | refine wd hT rfl rfl rfl ?_ | refine wz hT rfl ?_ | refine AWd_nil ?_ | refine AWk_nil ?_ | refine wh hT rfl rfl rfl rfl ?_ | refine wg hT rfl rfl rfl rfl rfl ?_ | refine AW_seq ?_ | refine AW_region ?_ | refine wx mixed ?_ | refine AW_block ?_ | refine AW_skip ?_ | refine AW_exit ?_ | refine AW_ret ?_)
          refine AW_loopC (ι := Nat × Int) (fun x => [(1, .d (.sl 2 (encRes l))), (2, .ptr 0 0), (6, .d (.int .i64 one)), (7, .d (.int .i64 x.2)), (44, .d (.sl 4 (encCs kids))), (45, .d (.int .i64 (encCs kids).length)), (46, .d (.int .i64 x.1))])
            (fun _ => [.row [.d (.int .i64 k), .d (.int .i64 c), .d (.int .i64 v), .d (.sl 4 (encCs kids))]])
            (fun x => x.1 ≤ kids.length ∧ foldF one x.2 ((kids.drop x.1).map fun y => forcedF l d y) = fin) (fun x => kids.length - x.1) (0, all) ⟨by simp, hfin⟩
            ⟨.refl _, .refl _, .refl _, .refl _, .refl _, .refl _, .refl _, trivial⟩ (HLe.refl _) ?_
          rintro ⟨j, al⟩ ⟨hj, hf⟩
          simp only at hj hf ⊢
          repeat (first | refine wk hT rfl rfl ?_ | refine wd hT rfl rfl rfl ?_ | refine wz hT rfl ?_ | refine AWd_nil ?_ | refine AWk_nil ?_ | refine wh hT rfl rfl rfl rfl ?_ | refine wg hT rfl rfl rfl rfl rfl ?_ | refine AW_seq ?_ | refine AW_region ?_ | refine wx mixed ?_ | refine AW_block ?_ | refine AW_skip ?_ | refine AW_exit ?_ | refine AW_ret ?_)
          refine AW_condL rfl (fun h5 => ?_) (fun h5 => ?_)
          · have hlt : j < kids.length := by rw [hlen] at h5; simpa using h5
            have hel : (encCs kids)[((j : Int)).toNat]? = some (encC kids[j]) := by simp [encCs_eq, hlt]
            have hmem := List.getElem_mem hlt
            have hx := ih kids[j] hmem (hall kids[j] hmem)
            have hd : kids.drop j = kids[j] :: kids.drop (j + 1) := by simp
            have hwr : IntKind.i64.wrap ((j : Int) + 1) = ((j + 1 : Nat) : Int) := by rw [wrap_id (by omega)]; simp
            rw [hd, List.map_cons, foldF] at hf
            generalize forcedF l d kids[j] = f at hx hf
            generalize kids[j] = x at hel hx
            obtain ⟨xk, xc, xv, xkids⟩ := x
            repeat (first | refine wk hT rfl rfl ?_ | refine wd hT rfl rfl rfl ?_ | refine wz hT rfl ?_ | refine AWd_nil ?_ | refine AWk_nil ?_ | refine wh hT rfl rfl rfl rfl ?_ | refine wg hT rfl rfl rfl rfl rfl ?_ | refine AW_seq ?_ | refine AW_region ?_ | refine wx mixed ?_ | refine AW_block ?_ | refine AW_skip ?_ | refine AW_exit ?_ | refine AW_ret ?_)
            refine AWk_op (OpS_of_pure (indexAddr_ok hT rfl rfl rfl rfl (by omega) hel)) rfl ?_
            repeat (first | refine wk hT rfl rfl ?_ | refine wd hT rfl rfl rfl ?_ | refine wz hT rfl ?_ | refine AWd_nil ?_ | refine AWk_nil ?_ | refine wh hT rfl rfl rfl rfl ?_ | refine wg hT rfl rfl rfl rfl rfl ?_ | refine AW_seq ?_ | refine AW_region ?_ | refine wx mixed ?_ | refine AW_block ?_ | refine AW_skip ?_ | refine AW_exit ?_ | refine AW_ret ?_)
            refine AWk_op (callS0 rfl rfl hx rfl rfl rfl) rfl ?_
            repeat (first | refine wk hT rfl rfl ?_ | refine wd hT rfl rfl rfl ?_ | refine wz hT rfl ?_ | refine AWd_nil ?_ | refine AWk_nil ?_ | refine wh hT rfl rfl rfl rfl ?_ | refine wg hT rfl rfl rfl rfl rfl ?_ | refine AW_seq ?_ | refine AW_region ?_ | refine wx mixed ?_ | refine AW_block ?_ | refine AW_skip ?_ | refine AW_exit ?_ | refine AW_ret ?_)
            refine AW_condL rfl (fun h6 => ?_) (fun h6 => ?_)
            · have h6' : f = one := by simpa using h6
              rw [if_pos h6'] at hf
              repeat (first | refine wk hT rfl rfl ?_ | refine wd hT rfl rfl rfl ?_ | refine wz hT rfl ?_ | refine AWd_nil ?_ | refine AWk_nil ?_ | refine wh hT rfl rfl rfl rfl ?_ | refine wg hT rfl rfl rfl rfl rfl ?_ | refine AW_seq ?_ | refine AW_region ?_ | refine wx mixed ?_ | refine AW_block ?_ | refine AW_skip ?_ | refine AW_exit ?_ | refine AW_ret ?_)
              refine ret_exact rfl (.refl _) rfl rfl rfl rfl ⟨?_, rfl⟩
              show AV.d (.int .i64 one) = _
              rw [hf]
            · have h6' : ¬ f = one := by simpa using h6
              rw [if_neg h6'] at hf
              repeat (first | refine wk hT rfl rfl ?_ | refine wd hT rfl rfl rfl ?_ | refine wz hT rfl ?_ | refine AWd_nil ?_ | refine AWk_nil ?_ | refine wh hT rfl rfl rfl rfl ?_ | refine wg hT rfl rfl rfl rfl rfl ?_ | refine AW_seq ?_ | refine AW_region ?_ | refine wx mixed ?_ | refine AW_block ?_ | refine AW_skip ?_ | refine AW_exit ?_ | refine AW_ret ?_)
              refine AW_condL rfl (fun h7 => ?_) (fun h7 => ?_)
              · have h7' : f = 0 := by simpa using h7
                rw [if_pos h7'] at hf
                repeat (first | refine wk hT rfl rfl ?_ | refine wd hT rfl rfl rfl ?_ | refine wz hT rfl ?_ | refine AWd_nil ?_ | refine AWk_nil ?_ | refine wh hT rfl rfl rfl rfl ?_ | refine wg hT rfl rfl rfl rfl rfl ?_ | refine AW_seq ?_ | refine AW_region ?_ | refine wx mixed ?_ | refine AW_block ?_ | refine AW_skip ?_ | refine AW_exit ?_ | refine AW_ret ?_)
                exact ⟨(j + 1, 0), [.dead], ⟨by simp only; omega, hf⟩, by simp only; omega, ⟨.refl _, .refl _, .refl _, .refl _, .refl _, .refl _, AV.le.eq (by show AV.d (.int .i64 (IntKind.i64.wrap ((j : Int) + 1))) = _; rw [hwr]), trivial⟩, ⟨ObLe.refl _, trivial, trivial⟩, Env.below_mono hE (by simp), rfl, rfl⟩
              · have h7' : ¬ f = 0 := by simpa using h7
                rw [if_neg h7'] at hf
                repeat (first | refine wk hT rfl rfl ?_ | refine wd hT rfl rfl rfl ?_ | refine wz hT rfl ?_ | refine AWd_nil ?_ | refine AWk_nil ?_ | refine wh hT rfl rfl rfl rfl ?_ | refine wg hT rfl rfl rfl rfl rfl ?_ | refine AW_seq ?_ | refine AW_region ?_ | refine wx mixed ?_ | refine AW_block ?_ | refine AW_skip ?_ | refine AW_exit ?_ | refine AW_ret ?_)
                exact ⟨(j + 1, al), [.dead], ⟨by simp only; omega, hf⟩, by simp only; omega, ⟨.refl _, .refl _, .refl _, .refl _, .refl _, .refl _, AV.le.eq (by show AV.d (.int .i64 (IntKind.i64.wrap ((j : Int) + 1))) = _; rw [hwr]), trivial⟩, ⟨ObLe.refl _, trivial, trivial⟩, Env.below_mono hE (by simp), rfl, rfl⟩
          · have hge : j = kids.length := by rw [hlen] at h5; simp at h5; omega
            subst hge
            rw [List.drop_length] at hf
            repeat (first | refine wk hT rfl rfl ?_ | refine wd hT rfl rfl rfl ?_ | refine wz hT rfl ?_ | refine AWd_nil ?_ | refine AWk_nil ?_ | refine wh hT rfl rfl rfl rfl ?_ | refine wg hT rfl rfl rfl rfl rfl ?_ | refine AW_seq ?_ | refine AW_region ?_ | refine wx mixed ?_ | refine AW_block ?_ | refine AW_skip ?_ | refine AW_exit ?_ | refine AW_ret ?_)
            refine ret_exact rfl (.refl _) rfl rfl rfl rfl ⟨?_, rfl⟩
            show AV.d (.int .i64 al) = _
            rw [← hf]; rfl

def forcedP (c : Cond) (l : List Res) : Int := if validC 8 c = true then forcedF l 8 c else 0

set_option maxHeartbeats 4000000 in
set_option maxRecDepth 100000 in
theorem Forced_spec (c : Cond) (l : List Res) (hl : l.length ≤ 1000000) (hs : smallC c) : Spec Tryz.prog 61 [cAV c, .d (.sl 2 (encRes l))] [] (fun r h' => r = .d (.int .i64 (forcedP c l)) ∧ h' = []) := by
  have hv := valid_spec 8 c (by omega) hs
  have hf := forced_spec l hl 8 c
  unfold forcedP
  generalize validC 8 c = b at hv hf ⊢
  generalize forcedF l 8 c = f at hf ⊢
  obtain ⟨k, ch, v, kids⟩ := c
  refine Spec_of_body hT Tryz.func61 rfl rfl rfl rfl ?_
  intro E hE
  repeat (first | refine wk hT rfl rfl ?_ | refine wd hT rfl rfl rfl ?_ | refine wz hT rfl ?_ | refine AWd_nil ?_ | refine AWk_nil ?_ | refine wh hT rfl rfl rfl rfl ?_ | refine wg hT rfl rfl rfl rfl rfl ?_ | refine AW_seq ?_ | refine AW_region ?_ | refine wx mixed ?_ | refine AW_block ?_ | refine AW_skip ?_ | refine AW_exit ?_ | refine AW_ret ?_)
  refine AWk_op (callS0 rfl rfl hv rfl rfl rfl) rfl ?_
  repeat (first | refine wk hT rfl rfl ?_ | refine wd hT rfl rfl rfl ?_ | refine wz hT rfl ?_ | refine AWd_nil ?_ | refine AWk_nil ?_ | refine wh hT rfl rfl rfl rfl ?_ | refine wg hT rfl rfl rfl rfl rfl ?_ | refine AW_seq ?_ | refine AW_region ?_ | refine wx mixed ?_ | refine AW_block ?_ | refine AW_skip ?_ | refine AW_exit ?_ | refine AW_ret ?_)
  refine AW_condL rfl (fun h1 => ?_) (fun h1 => ?_)
  · have h1' : ¬ b = true := by simpa using h1
    rw [if_neg h1']
    repeat (first | refine wk hT rfl rfl ?_ | refine wd hT rfl rfl rfl ?_ | refine wz hT rfl ?_ | refine AWd_nil ?_ | refine AWk_nil ?_ | refine wh hT rfl rfl rfl rfl ?_ | refine wg hT rfl rfl rfl rfl rfl ?_ | refine AW_seq ?_ | refine AW_region ?_ | refine wx mixed ?_ | refine AW_block ?_ | refine AW_skip ?_ | refine AW_exit ?_ | refine AW_ret ?_)
    exact ret_exact rfl (.refl _) rfl rfl rfl rfl ⟨rfl, rfl⟩
  · have h1' : b = true := by simpa using h1
    rw [if_pos h1']
    repeat (first | refine wk hT rfl rfl ?_ | refine wd hT rfl rfl rfl ?_ | refine wz hT rfl ?_ | refine AWd_nil ?_ | refine AWk_nil ?_ | refine wh hT rfl rfl rfl rfl ?_ | refine wg hT rfl rfl rfl rfl rfl ?_ | refine AW_seq ?_ | refine AW_region ?_ | refine wx mixed ?_ | refine AW_block ?_ | refine AW_skip ?_ | refine AW_exit ?_ | refine AW_ret ?_)
    refine AWk_op (callS0 rfl rfl (hf h1' hs) rfl rfl rfl) rfl ?_
    repeat (first | refine wk hT rfl rfl ?_ | refine wd hT rfl rfl rfl ?_ | refine wz hT rfl ?_ | refine AWd_nil ?_ | refine AWk_nil ?_ | refine wh hT rfl rfl rfl rfl ?_ | refine wg hT rfl rfl rfl rfl rfl ?_ | refine AW_seq ?_ | refine AW_region ?_ | refine wx mixed ?_ | refine AW_block ?_ | refine AW_skip ?_ | refine AW_exit ?_ | refine AW_ret ?_)
    exact ret_exact rfl (.refl _) rfl rfl rfl rfl ⟨rfl, rfl⟩
end Tdoc
/- Package policy: whether a condition holds. -/
set_option linter.unusedVariables false
set_option linter.unusedSimpArgs false
namespace Tdoc
open Go Go.Proofs

def isH (v : Int) : Option Int → Bool
  | none => v == 4
  | some x => x == v
def holdsF (l : List Res) : Nat → Cond → Bool
  | 0, _ => false
  | d + 1, .mk k c v kids =>
    if k = 1 then isH v (valOf c l) else if k = 2 then !((kids.map fun x => holdsF l d x).headD false)
    else if k = 3 then !(kids.any fun x => !holdsF l d x) else kids.any fun x => holdsF l d x

def holdsP (c : Cond) (l : List Res) : Bool := validC 8 c && holdsF l 8 c
end Tdoc
/- Package policy: Holds; and the sanity check of the laws. -/
set_option linter.unusedVariables false
set_option linter.unusedSimpArgs false
namespace Tdoc
open Go Go.Proofs

def aw1 : List UInt8 := [97, 99, 99, 101, 112, 116, 32, 105, 102, 32, 115, 105, 103, 110, 97, 116, 117, 114, 101, 32, 97, 110, 100, 32, 40, 99, 104, 105, 112, 32, 111, 114, 32, 97, 99, 116, 105, 118, 101, 41, 59, 32, 114, 101, 102, 101, 114, 59]
def aw2 : List UInt8 := [97, 99, 99, 101, 112, 116, 32, 105, 102, 32, 59]
def awC : Cond := .mk 3 0 0 [.mk 1 2 1 [], .mk 4 0 0 [.mk 1 12 1 [], .mk 1 13 1 []]]
def awP : List Rule := [.mk 1 false awC, .mk 2 true (.mk 0 0 0 [])]

theorem aw1_parse : parseP aw1 = (awP, 0, 0) := by kernel_rfl
theorem aw2_parse : parseP aw2 = ([], 10, 71) := by kernel_rfl
theorem aw_valid : validPol awP = 0 := by kernel_rfl
theorem aw_holds : holdsP awC [(2, 1), (12, 1)] = true := by kernel_rfl
theorem aw_forced1 : forcedP awC [(2, 1), (12, 1)] = 1 := by kernel_rfl
theorem aw_forced0 : forcedP awC [(2, 1)] = 0 := by kernel_rfl
theorem aw_small : smallC awC := by simp [awC, smallC, smallCs]

end Tdoc
/- Package traveldocmill: Mod, Light, dice. -/
set_option linter.unusedVariables false
set_option linter.unusedSimpArgs false
namespace Tdoc
open Go Go.Proofs

def modP (x n : Int) : Int := if n < 1 then 0 else x % n

theorem tmod_lt {x n : Int} (h : 1 ≤ n) : -n < x.tmod n ∧ x.tmod n < n := by
  have h1 := Int.tmod_lt_of_pos x (b := n) (by omega)
  have h2 : (-x).tmod n < n := Int.tmod_lt_of_pos (-x) (b := n) (by omega)
  rw [Int.neg_tmod] at h2
  omega

theorem mod_tmod {x n : Int} (h : 1 ≤ n) : (x.tmod n + n).tmod n = x % n := by
  have hb := tmod_lt (x := x) h
  rw [Int.tmod_eq_emod_of_nonneg (by omega), Int.add_emod_right]
  have h2 := Int.mul_tdiv_add_tmod x n
  have h3 : x % n = (x.tmod n + n * x.tdiv n) % n := by rw [Int.add_comm, h2]
  rw [h3, Int.add_mul_emod_self_left]

theorem modP_range {x n : Int} (h : 1 ≤ n) : 0 ≤ modP x n ∧ modP x n < n := by
  unfold modP
  rw [if_neg (by omega)]
  exact ⟨Int.emod_nonneg _ (by omega), Int.emod_lt_of_pos _ (by omega)⟩

set_option maxRecDepth 100000 in
theorem Mod_spec (x n : Int) (hn : n ≤ 4611686018427387904) : Spec Tryz.prog 14 [.d (.int .i64 x), .d (.int .i64 n)] [] (fun r h' => r = .d (.int .i64 (modP x n)) ∧ h' = []) := by
  refine Spec_of_body hT Tryz.func14 rfl rfl rfl rfl ?_
  intro E hE
  repeat (first | refine wk hT rfl rfl ?_ | refine wd hT rfl rfl rfl ?_ | refine wz hT rfl ?_ | refine AWd_nil ?_ | refine AWk_nil ?_ | refine wh hT rfl rfl rfl rfl ?_ | refine wg hT rfl rfl rfl rfl rfl ?_ | refine AW_seq ?_ | refine AW_region ?_ | refine wx mixed ?_ | refine AW_block ?_ | refine AW_skip ?_ | refine AW_exit ?_ | refine AW_ret ?_)
  refine AW_condL rfl (fun h1 => ?_) (fun h1 => ?_)
  · have h1' : n < 1 := by simpa using h1
    have hm : modP x n = 0 := by unfold modP; rw [if_pos h1']
    rw [hm]
    repeat (first | refine wk hT rfl rfl ?_ | refine wd hT rfl rfl rfl ?_ | refine wz hT rfl ?_ | refine AWd_nil ?_ | refine AWk_nil ?_ | refine wh hT rfl rfl rfl rfl ?_ | refine wg hT rfl rfl rfl rfl rfl ?_ | refine AW_seq ?_ | refine AW_region ?_ | refine wx mixed ?_ | refine AW_block ?_ | refine AW_skip ?_ | refine AW_exit ?_ | refine AW_ret ?_)
    exact ret_exact rfl (.refl _) rfl rfl rfl rfl ⟨rfl, rfl⟩
  · have h1' : ¬ n < 1 := by simpa using h1
    have hne : n ≠ 0 := by omega
    have hb := tmod_lt (x := x) (n := n) (by omega)
    have hw : IntKind.i64.wrap (x.tmod n + n) = x.tmod n + n := wrap_id (by omega)
    have hm : (IntKind.i64.wrap (x.tmod n + n)).tmod n = modP x n := by rw [hw, mod_tmod (by omega)]; unfold modP; rw [if_neg h1']
    rw [← hm]
    repeat (first | refine wk hT rfl rfl ?_ | refine wd hT rfl rfl rfl ?_ | refine wz hT rfl ?_ | refine AWd_nil ?_ | refine AWk_nil ?_ | refine wh hT rfl rfl rfl rfl ?_ | refine wg hT rfl rfl rfl rfl rfl ?_ | refine AW_seq ?_ | refine AW_region ?_ | refine wx mixed ?_ | refine AW_block ?_ | refine AW_skip ?_ | refine AW_exit ?_ | refine AW_ret ?_)
    exact ret_exact rfl (.refl _) rfl rfl rfl rfl ⟨rfl, rfl⟩

theorem numsD_length (k : IntKind) (l : List Int) : (numsD k l).length = l.length := by simp [numsD]

set_option maxRecDepth 100000 in
theorem Light_spec (l : List Int) : Spec Tryz.prog 6 [.d (.sl 1 (numsD .i64 l))] [] (fun r h' => r = .d (.bool (decide (l.length ≤ 80))) ∧ h' = []) := by
  refine Spec_of_body hT Tryz.func6 rfl rfl rfl rfl ?_
  intro E hE
  have hl := numsD_length .i64 l
  generalize numsD .i64 l = es at hl
  repeat (first | refine wk hT rfl rfl ?_ | refine wd hT rfl rfl rfl ?_ | refine wz hT rfl ?_ | refine AWd_nil ?_ | refine AWk_nil ?_ | refine wh hT rfl rfl rfl rfl ?_ | refine wg hT rfl rfl rfl rfl rfl ?_ | refine AW_seq ?_ | refine AW_region ?_ | refine wx mixed ?_ | refine AW_block ?_ | refine AW_skip ?_ | refine AW_exit ?_ | refine AW_ret ?_)
  refine ret_exact rfl (.refl _) rfl rfl rfl rfl ⟨?_, rfl⟩
  rw [hl]
  refine congrArg (fun b => AV.d (.bool b)) (decide_eq_decide.2 (by omega))

/-- Dice: the numbers, and how many have been given out. -/
def dice (l : List Int) (at_ : Nat) : List AV := [.d (.sl 1 (numsD .i64 l)), .d (.int .i64 (at_ : Int))]

set_option maxRecDepth 100000 in
theorem Roll_spec (l : List Int) (hl : l.length ≤ 1000000) : Spec Tryz.prog 21 [.d (.sl 1 (numsD .i64 l))] [.room] (fun r h' => r = .ptr 0 0 ∧ h' = [.row (dice l 0)]) := by
  refine Spec_of_body hT Tryz.func21 rfl rfl rfl rfl ?_
  intro E hE
  have hll := numsD_length .i64 l
  unfold dice
  generalize numsD .i64 l = es at hll
  repeat (first | refine wk hT rfl rfl ?_ | refine wd hT rfl rfl rfl ?_ | refine wz hT rfl ?_ | refine AWd_nil ?_ | refine AWk_nil ?_ | refine wh hT rfl rfl rfl rfl ?_ | refine wg hT rfl rfl rfl rfl rfl ?_ | refine AW_seq ?_ | refine AW_region ?_ | refine wx mixed ?_ | refine AW_block ?_ | refine AW_skip ?_ | refine AW_exit ?_ | refine AW_ret ?_)
  refine AWk_op (append_full (es := []) hT rfl rfl rfl (.inl rfl) rfl (by show (([] : List (List Dat)).length + es.length) * (8 + 1) ≤ 140737488355328; simp; omega)) rfl ?_
  refine AWk_step hT rfl rfl (by first | exact True.intro | exact (fun hh => hh) | omega | assumption | (intro hh; rw [hh]; rfl) | (intro hh; simp [gval, hh]; done) | (simp; omega)) ?_
  refine AWk_op (boxAt_ok (i0 := 0) rfl rfl rfl) rfl ?_
  repeat (first | refine wk hT rfl rfl ?_ | refine wd hT rfl rfl rfl ?_ | refine wz hT rfl ?_ | refine AWd_nil ?_ | refine AWk_nil ?_ | refine wh hT rfl rfl rfl rfl ?_ | refine wg hT rfl rfl rfl rfl rfl ?_ | refine AW_seq ?_ | refine AW_region ?_ | refine wx mixed ?_ | refine AW_block ?_ | refine AW_skip ?_ | refine AW_exit ?_ | refine AW_ret ?_)
  exact ret_exact rfl (.refl _) rfl rfl rfl rfl ⟨rfl, rfl⟩

def nextV (l : List Int) (at_ : Nat) (n : Int) : Int := match l[at_]? with
  | none => 0
  | some x => modP x n
def nextA (l : List Int) (at_ : Nat) : Nat := if at_ < l.length then at_ + 1 else at_

theorem nextA_le {l : List Int} {a : Nat} (h : a ≤ l.length) : nextA l a ≤ l.length := by unfold nextA; split <;> omega
theorem nextV_range {l : List Int} {a : Nat} {n : Int} (h : 1 ≤ n) : 0 ≤ nextV l a n ∧ nextV l a n < n := by
  unfold nextV
  split
  · omega
  · exact modP_range h

set_option maxRecDepth 100000 in
theorem Next_spec (l : List Int) (a : Nat) (n : Int) (hn : n ≤ 4611686018427387904) (hl : l.length ≤ 1000000) (ha : a ≤ l.length) :
    Spec Tryz.prog 22 [.ptr 0 0, .d (.int .i64 n)] [.row (dice l a)] (fun r h' => r = .d (.int .i64 (nextV l a n)) ∧ h' = [.row (dice l (nextA l a))]) := by
  refine Spec_of_body hT Tryz.func22 rfl rfl rfl rfl ?_
  intro E hE
  have hll := numsD_length .i64 l
  unfold dice
  repeat (first | refine wk hT rfl rfl ?_ | refine wd hT rfl rfl rfl ?_ | refine wz hT rfl ?_ | refine AWd_nil ?_ | refine AWk_nil ?_ | refine wh hT rfl rfl rfl rfl ?_ | refine wg hT rfl rfl rfl rfl rfl ?_ | refine AW_seq ?_ | refine AW_region ?_ | refine wx mixed ?_ | refine AW_block ?_ | refine AW_skip ?_ | refine AW_exit ?_ | refine AW_ret ?_)
  refine AW_condL rfl (fun h1 => ?_) (fun h1 => ?_)
  · have h1' : ¬ a < l.length := by rw [hll] at h1; simp at h1; omega
    have hget : l[a]? = none := List.getElem?_eq_none (by omega)
    have hv : nextV l a n = 0 := by simp [nextV, hget]
    have hv2 : nextA l a = a := by simp [nextA, h1']
    rw [hv, hv2]
    repeat (first | refine wk hT rfl rfl ?_ | refine wd hT rfl rfl rfl ?_ | refine wz hT rfl ?_ | refine AWd_nil ?_ | refine AWk_nil ?_ | refine wh hT rfl rfl rfl rfl ?_ | refine wg hT rfl rfl rfl rfl rfl ?_ | refine AW_seq ?_ | refine AW_region ?_ | refine wx mixed ?_ | refine AW_block ?_ | refine AW_skip ?_ | refine AW_exit ?_ | refine AW_ret ?_)
    exact ret_exact rfl (.refl _) rfl rfl rfl rfl ⟨rfl, rfl⟩
  · have h1' : a < l.length := by rw [hll] at h1; simp at h1; omega
    have hw1 : IntKind.i64.wrap ((a : Int) + 1) = ((a + 1 : Nat) : Int) := by rw [wrap_id (by omega)]; simp
    have hw2 : IntKind.i64.wrap (((a + 1 : Nat) : Int) - 1) = (a : Int) := by rw [wrap_id (by omega)]; omega
    have h0 : 0 ≤ IntKind.i64.wrap (IntKind.i64.wrap ((a : Int) + 1) - 1) := by rw [hw1, hw2]; omega
    have hel : (numsD .i64 l)[(IntKind.i64.wrap (IntKind.i64.wrap ((a : Int) + 1) - 1)).toNat]? = some [.int .i64 l[a]] := by rw [hw1, hw2]; simp [numsD, h1']
    have hv : nextV l a n = modP l[a] n := by simp [nextV, h1']
    have hm := Mod_spec l[a] n hn
    rw [← hv] at hm
    generalize l[a] = x at hel hm
    repeat (first | refine wk hT rfl rfl ?_ | refine wd hT rfl rfl rfl ?_ | refine wz hT rfl ?_ | refine AWd_nil ?_ | refine AWk_nil ?_ | refine wh hT rfl rfl rfl rfl ?_ | refine wg hT rfl rfl rfl rfl rfl ?_ | refine AW_seq ?_ | refine AW_region ?_ | refine wx mixed ?_ | refine AW_block ?_ | refine AW_skip ?_ | refine AW_exit ?_ | refine AW_ret ?_)
    refine AWd_op (OpS_of_pure (indexAddr_ok hT rfl rfl rfl rfl h0 hel)) rfl rfl ?_
    repeat (first | refine wk hT rfl rfl ?_ | refine wd hT rfl rfl rfl ?_ | refine wz hT rfl ?_ | refine AWd_nil ?_ | refine AWk_nil ?_ | refine wh hT rfl rfl rfl rfl ?_ | refine wg hT rfl rfl rfl rfl rfl ?_ | refine AW_seq ?_ | refine AW_region ?_ | refine wx mixed ?_ | refine AW_block ?_ | refine AW_skip ?_ | refine AW_exit ?_ | refine AW_ret ?_)
    refine AWd_op (callS0 rfl rfl hm rfl rfl rfl) rfl rfl ?_
    repeat (first | refine wk hT rfl rfl ?_ | refine wd hT rfl rfl rfl ?_ | refine wz hT rfl ?_ | refine AWd_nil ?_ | refine AWk_nil ?_ | refine wh hT rfl rfl rfl rfl ?_ | refine wg hT rfl rfl rfl rfl rfl ?_ | refine AW_seq ?_ | refine AW_region ?_ | refine wx mixed ?_ | refine AW_block ?_ | refine AW_skip ?_ | refine AW_exit ?_ | refine AW_ret ?_)
    refine ret_exact rfl (.refl _) rfl rfl rfl rfl ⟨rfl, ?_⟩
    rw [hw1]
    simp [nextA, h1']

set_option maxRecDepth 100000 in
theorem Rest_spec (l : List Int) (a : Nat) (hl : l.length ≤ 1000000) (ha : a ≤ l.length) :
    Spec Tryz.prog 59 [.ptr 0 0] [.row (dice l a)] (fun r h' => r = .d (.int .i64 ((l.length - a : Nat) : Int)) ∧ h' = [.row (dice l a)]) := by
  refine Spec_of_body hT Tryz.func59 rfl rfl rfl rfl ?_
  intro E hE
  have hll := numsD_length .i64 l
  have hw : IntKind.i64.wrap (((numsD .i64 l).length : Int) - (a : Int)) = ((l.length - a : Nat) : Int) := by rw [hll, wrap_id (by omega)]; omega
  unfold dice
  repeat (first | refine wk hT rfl rfl ?_ | refine wd hT rfl rfl rfl ?_ | refine wz hT rfl ?_ | refine AWd_nil ?_ | refine AWk_nil ?_ | refine wh hT rfl rfl rfl rfl ?_ | refine wg hT rfl rfl rfl rfl rfl ?_ | refine AW_seq ?_ | refine AW_region ?_ | refine wx mixed ?_ | refine AW_block ?_ | refine AW_skip ?_ | refine AW_exit ?_ | refine AW_ret ?_)
  refine AWd_op (OpS_of_pure (max2_ok (t2 := #[]) rfl rfl rfl)) rfl rfl ?_
  repeat (first | refine wk hT rfl rfl ?_ | refine wd hT rfl rfl rfl ?_ | refine wz hT rfl ?_ | refine AWd_nil ?_ | refine AWk_nil ?_ | refine wh hT rfl rfl rfl rfl ?_ | refine wg hT rfl rfl rfl rfl rfl ?_ | refine AW_seq ?_ | refine AW_region ?_ | refine wx mixed ?_ | refine AW_block ?_ | refine AW_skip ?_ | refine AW_exit ?_ | refine AW_ret ?_)
  refine ret_exact rfl (.refl _) rfl rfl rfl rfl ⟨?_, rfl⟩
  rw [hw]
  refine congrArg (fun b => AV.d (.int .i64 b)) ?_
  split <;> omega
end Tdoc
/- Package traveldocmill: conditions and results out of numbers. -/
set_option linter.unusedVariables false
set_option linter.unusedSimpArgs false
namespace Tdoc
open Go Go.Proofs

/-! results -/
def resM (l : List Int) (k : Nat) : List Res := (List.range k).map fun j => (((j + 1 : Nat) : Int), 1 + nextV l (min j l.length) 4)
theorem resM_succ (l : List Int) (k : Nat) : resM l (k + 1) = resM l k ++ [(((k + 1 : Nat) : Int), 1 + nextV l (min k l.length) 4)] := by simp [resM, List.range_succ]
theorem resM_length (l : List Int) (k : Nat) : (resM l k).length = k := by simp [resM]
theorem encRes_append (a b : List Res) : encRes (a ++ b) = encRes a ++ encRes b := by simp [encRes]
theorem nextA_min (l : List Int) (k : Nat) : nextA l (min k l.length) = min (k + 1) l.length := by unfold nextA; split <;> omega

set_option maxHeartbeats 4000000 in
set_option maxRecDepth 100000 in
theorem Results_spec (l : List Int) (hl : l.length ≤ 1000000) : Spec Tryz.prog 9 [.d (.sl 1 (numsD .i64 l))] [] (fun r h' => r = .d (.sl 2 (encRes (resM l 13))) ∧ h' = []) := by
  refine Spec_of_body hT Tryz.func9 rfl rfl rfl rfl ?_
  intro E hE
  have hroll := Roll_spec l hl
  refine AW_room ?_
  repeat (first | refine wk hT rfl rfl ?_ | refine wd hT rfl rfl rfl ?_ | refine wz hT rfl ?_ | refine AWd_nil ?_ | refine AWk_nil ?_ | refine wh hT rfl rfl rfl rfl ?_ | refine wg hT rfl rfl rfl rfl rfl ?_ | refine AW_seq ?_ | refine AW_region ?_ | refine wx mixed ?_ | refine AW_block ?_ | refine AW_skip ?_ | refine AW_exit ?_ | refine AW_ret ?_)
  refine AWk_opF (callS rfl rfl hroll [0] (by decide) rfl rfl rfl rfl rfl rfl) rfl rfl ?_
  repeat (first | refine wk hT rfl rfl ?_ | refine wd hT rfl rfl rfl ?_ | refine wz hT rfl ?_ | refine AWd_nil ?_ | refine AWk_nil ?_ | refine wh hT rfl rfl rfl rfl ?_ | refine wg hT rfl rfl rfl rfl rfl ?_ | refine AW_seq ?_ | refine AW_region ?_ | refine wx mixed ?_ | refine AW_block ?_ | refine AW_skip ?_ | refine AW_exit ?_ | refine AW_ret ?_)
  refine AW_room (AW_acquireAt 4 2 1 (es := []) (.inr ⟨rfl, rfl⟩) rfl ?_)
  refine AW_loopL (ι := Nat) (fun k => [(3, .ptr 0 0), (4, .sl 2 (encRes (resM l k)) (.right 1)), (5, .d (.int .i64 ((k + 1 : Nat) : Int)))])
    (fun k => [.row (dice l (min k l.length)), .right 2 (encRes (resM l k)).length]) (fun k => k ≤ 13) (fun k => 13 - k) 0 (by omega) ⟨.refl _, .refl _, .refl _, trivial⟩ ?_ ?_
  · simp only [Nat.zero_min]; exact HLe.refl _
  intro k hk
  have hn := Next_spec l (min k l.length) 4 (by omega) hl (by omega)
  have hr := nextV_range (l := l) (a := min k l.length) (n := 4) (by omega)
  have hsucc := resM_succ l k
  have hlen := encRes_length (resM l k)
  have hrl := resM_length l k
  rw [nextA_min] at hn
  generalize nextV l (min k l.length) 4 = x at hn hr hsucc
  have hw1 : IntKind.i64.wrap (1 + x) = 1 + x := wrap_id (by omega)
  have hw2 : IntKind.i64.wrap (((k + 1 : Nat) : Int) + 1) = ((k + 1 + 1 : Nat) : Int) := by rw [wrap_id (by omega)]; omega
  repeat (first | refine wk hT rfl rfl ?_ | refine wd hT rfl rfl rfl ?_ | refine wz hT rfl ?_ | refine AWd_nil ?_ | refine AWk_nil ?_ | refine wh hT rfl rfl rfl rfl ?_ | refine wg hT rfl rfl rfl rfl rfl ?_ | refine AW_seq ?_ | refine AW_region ?_ | refine wx mixed ?_ | refine AW_block ?_ | refine AW_skip ?_ | refine AW_exit ?_ | refine AW_ret ?_)
  refine AW_condL rfl (fun h1 => ?_) (fun h1 => ?_)
  · have hlt : k < 13 := by simp at h1; omega
    repeat (first | refine wk hT rfl rfl ?_ | refine wd hT rfl rfl rfl ?_ | refine wz hT rfl ?_ | refine AWd_nil ?_ | refine AWk_nil ?_ | refine wh hT rfl rfl rfl rfl ?_ | refine wg hT rfl rfl rfl rfl rfl ?_ | refine AW_seq ?_ | refine AW_region ?_ | refine wx mixed ?_ | refine AW_block ?_ | refine AW_skip ?_ | refine AW_exit ?_ | refine AW_ret ?_)
    refine AWk_op (callS1 rfl rfl hn [0] (by decide) rfl rfl rfl rfl rfl rfl rfl) rfl ?_
    repeat (first | refine wk hT rfl rfl ?_ | refine wd hT rfl rfl rfl ?_ | refine wz hT rfl ?_ | refine AWd_nil ?_ | refine AWk_nil ?_ | refine wh hT rfl rfl rfl rfl ?_ | refine wg hT rfl rfl rfl rfl rfl ?_ | refine AW_seq ?_ | refine AW_region ?_ | refine wx mixed ?_ | refine AW_block ?_ | refine AW_skip ?_ | refine AW_exit ?_ | refine AW_ret ?_)
    refine AWk_op (append_right (i := 1) hT rfl rfl rfl rfl rfl rfl (by show ((encRes (resM l k)).length + 1) * (16 + 1) ≤ 140737488355328; omega)) rfl ?_
    repeat (first | refine wk hT rfl rfl ?_ | refine wd hT rfl rfl rfl ?_ | refine wz hT rfl ?_ | refine AWd_nil ?_ | refine AWk_nil ?_ | refine wh hT rfl rfl rfl rfl ?_ | refine wg hT rfl rfl rfl rfl rfl ?_ | refine AW_seq ?_ | refine AW_region ?_ | refine wx mixed ?_ | refine AW_block ?_ | refine AW_skip ?_ | refine AW_exit ?_ | refine AW_ret ?_)
    refine ⟨k + 1, by omega, by omega, ⟨.refl _, AV.le.eq ?_, AV.le.eq (by show AV.d (.int .i64 (IntKind.i64.wrap (((k + 1 : Nat) : Int) + 1))) = _; rw [hw2]), trivial⟩, ⟨ObLe.refl _, ⟨rfl, ?_⟩, trivial⟩⟩
    · rw [hsucc, encRes_append, hw1]; rfl
    · rw [hsucc, encRes_append, List.length_append]; rfl
  · have hge : k = 13 := by simp at h1; omega
    subst hge
    repeat (first | refine wk hT rfl rfl ?_ | refine wd hT rfl rfl rfl ?_ | refine wz hT rfl ?_ | refine AWd_nil ?_ | refine AWk_nil ?_ | refine wh hT rfl rfl rfl rfl ?_ | refine wg hT rfl rfl rfl rfl rfl ?_ | refine AW_seq ?_ | refine AW_region ?_ | refine wx mixed ?_ | refine AW_block ?_ | refine AW_skip ?_ | refine AW_exit ?_ | refine AW_ret ?_)
    refine ret_exact (r := .d (.sl 2 (encRes (resM l 13)))) rfl AV.le.dat rfl rfl rfl rfl ⟨rfl, rfl⟩

/-! conditions -/
def leafM (l : List Int) (a : Nat) : Cond × Nat := (.mk 1 (1 + nextV l a 13) (1 + nextV l (nextA l a) 4) [], nextA l (nextA l a))
def kidsL (f : Nat → Cond × Nat) : Nat → List Cond → Nat → List Cond × Nat
  | 0, acc, a => (acc, a)
  | n + 1, acc, a => kidsL f n (acc ++ [(f a).1]) (f a).2
def kindM (k nt : Int) : Int := if (if k = 4 then 4 else 3) = nt then 7 - (if k = 4 then 4 else 3) else if k = 4 then 4 else 3
def condM (l : List Int) : Nat → Int → Nat → Cond × Nat
  | 0, _, a => leafM l (nextA l a)
  | d + 1, nt, a =>
    if nextV l a 5 < 2 ∨ l.length - nextA l a = 0 then leafM l (nextA l a)
    else if nextV l a 5 = 2 then (.mk 2 0 0 [(condM l d 0 (nextA l a)).1], (condM l d 0 (nextA l a)).2)
    else
      let r := kidsL (condM l d (kindM (nextV l a 5) nt)) (2 + nextV l (nextA l a) 2).toNat [] (nextA l (nextA l a))
      (.mk (kindM (nextV l a 5) nt) 0 0 r.1, r.2)

def CondOk (l : List Int) (d : Nat) (nt : Int) (p : Cond × Nat) : Prop := p.2 ≤ l.length ∧ validC (d + 1) p.1 = true ∧ smallC p.1 ∧ (nt = 3 ∨ nt = 4 → kindC p.1 ≠ nt)

theorem leafM_ok {l : List Int} {d : Nat} {nt : Int} {a : Nat} (h : a ≤ l.length) : CondOk l d nt (leafM l a) := by
  have h1 := nextV_range (l := l) (a := a) (n := 13) (by omega)
  have h2 := nextV_range (l := l) (a := nextA l a) (n := 4) (by omega)
  refine ⟨nextA_le (nextA_le h), ?_, by simp [leafM, smallC, smallCs], fun hn => by simp [leafM, kindC]; omega⟩
  simp [leafM, validC]; omega

theorem kidsL_ok {l : List Int} {d : Nat} {nt : Int} {f : Nat → Cond × Nat} (hf : ∀ a, a ≤ l.length → CondOk l d nt (f a)) : ∀ (n : Nat) (acc : List Cond) (a : Nat), a ≤ l.length → (∀ c, c ∈ acc → validC (d + 1) c = true ∧ smallC c ∧ (nt = 3 ∨ nt = 4 → kindC c ≠ nt)) →
    (kidsL f n acc a).2 ≤ l.length ∧ (∀ c, c ∈ (kidsL f n acc a).1 → validC (d + 1) c = true ∧ smallC c ∧ (nt = 3 ∨ nt = 4 → kindC c ≠ nt)) ∧ (kidsL f n acc a).1.length = acc.length + n
  | 0, acc, a, h, hacc => ⟨h, hacc, rfl⟩
  | n + 1, acc, a, h, hacc => by
    have h1 := hf a h
    have := kidsL_ok hf n (acc ++ [(f a).1]) (f a).2 h1.1 (fun c hc => by
      rcases List.mem_append.1 hc with hc | hc
      · exact hacc c hc
      · simp at hc; subst hc; exact h1.2)
    rw [kidsL]
    refine ⟨this.1, this.2.1, ?_⟩
    rw [this.2.2]; simp; omega

theorem kindM_cases (k nt : Int) : (kindM k nt = 3 ∨ kindM k nt = 4) ∧ (nt = 3 ∨ nt = 4 → kindM k nt ≠ nt) := by
  unfold kindM
  constructor
  · split <;> split <;> omega
  · intro h; split <;> split <;> omega

theorem smallCs_of : ∀ {l : List Cond}, (∀ c, c ∈ l → smallC c) → smallCs l
  | [], _ => trivial
  | a :: l, h => ⟨h a (by simp), smallCs_of fun c hc => h c (by simp [hc])⟩

theorem condM_ok (l : List Int) : ∀ (d : Nat) (nt : Int) (a : Nat), a ≤ l.length → CondOk l d nt (condM l d nt a)
  | 0, nt, a, h => leafM_ok (nextA_le h)
  | d + 1, nt, a, h => by
    have h1 := nextA_le h
    rw [condM]
    split
    · exact leafM_ok h1
    · split
      · have ih := condM_ok l d 0 _ h1
        refine ⟨ih.1, ?_, ⟨by simp, ih.2.2.1, trivial⟩, fun hn => by simp [kindC]; omega⟩
        simp [validC, ih.2.1]
      · have hk := kindM_cases (nextV l a 5) nt
        have hr := nextV_range (l := l) (a := nextA l a) (n := 2) (by omega)
        have ih := kidsL_ok (f := condM l d (kindM (nextV l a 5) nt)) (fun a ha => condM_ok l d _ a ha) (2 + nextV l (nextA l a) 2).toNat [] _ (nextA_le h1) (fun c hc => by cases hc)
        generalize kindM (nextV l a 5) nt = kind at hk ih ⊢
        generalize hm : (2 + nextV l (nextA l a) 2).toNat = m at ih ⊢
        generalize kidsL (condM l d kind) m [] (nextA l (nextA l a)) = r at ih ⊢
        obtain ⟨kids, a'⟩ := r
        obtain ⟨i1, i2, i3⟩ := ih
        simp only [List.length_nil] at i1 i2 i3
        have hk34 : kind = 3 ∨ kind = 4 := hk.1
        refine ⟨i1, ?_, ⟨by simp only; omega, smallCs_of fun c hc => (i2 c hc).2.1⟩, fun hn => hk.2 hn⟩
        have e1 : (kids.any fun x => kindC x == kind) = false := by
          rw [List.any_eq_false]
          intro x hx
          have := (i2 x hx).2.2 hk34
          simpa using this
        have e2 : (kids.any fun x => !validC (d + 1) x) = false := by
          rw [List.any_eq_false]
          intro x hx
          simp [(i2 x hx).1]
        show validC (d + 1 + 1) (.mk kind 0 0 kids) = true
        rw [validC, if_neg (by omega), if_neg (by simp), if_neg (by omega), if_pos hk34, e1, e2]
        simp; omega

theorem condM_wide (l : List Int) (d : Nat) (nt : Int) (a : Nat) (h : a ≤ l.length) : (condM l d nt a).2 ≤ l.length := (condM_ok l d nt a h).1

set_option maxHeartbeats 8000000 in
set_option maxRecDepth 100000 in
theorem Cond_spec (l : List Int) (hl : l.length ≤ 1000000) (d : Nat) : ∀ (nt : Int) (a : Nat), d ≤ 100 → a ≤ l.length →
    Spec Tryz.prog 23 [.ptr 0 0, .d (.int .i64 ((d + 1 : Nat) : Int)), .d (.int .i64 nt)] [.row (dice l a)] (fun r h' => r = cAV (condM l d nt a).1 ∧ h' = [.row (dice l (condM l d nt a).2)]) := by
  induction d using Nat.strongRecOn with
  | _ d ih =>
  intro nt a hd ha
  have hk := Next_spec l a 5 (by omega) hl ha
  have ha1 := nextA_le ha
  have ha2 := nextA_le ha1
  have hrest := Rest_spec l (nextA l a) hl ha1
  have hkr := nextV_range (l := l) (a := a) (n := 5) (by omega)
  have hc1 := Next_spec l (nextA l a) 13 (by omega) hl ha1
  have hc2 := Next_spec l (nextA l (nextA l a)) 4 (by omega) hl ha2
  have hr1 := nextV_range (l := l) (a := nextA l a) (n := 13) (by omega)
  have hr2 := nextV_range (l := l) (a := nextA l (nextA l a)) (n := 4) (by omega)
  have hc3 := Next_spec l (nextA l a) 2 (by omega) hl ha1
  have hr3 := nextV_range (l := l) (a := nextA l a) (n := 2) (by omega)
  refine Spec_of_body hT Tryz.func23 rfl rfl rfl rfl ?_
  intro E hE
  repeat (first | refine wk hT rfl rfl ?_ | refine wd hT rfl rfl rfl ?_ | refine wz hT rfl ?_ | refine AWd_nil ?_ | refine AWk_nil ?_ | refine wh hT rfl rfl rfl rfl ?_ | refine wg hT rfl rfl rfl rfl rfl ?_ | refine AW_seq ?_ | refine AW_region ?_ | refine wx mixed ?_ | refine AW_block ?_ | refine AW_skip ?_ | refine AW_exit ?_ | refine AW_ret ?_)
  refine AWk_op (callS1 rfl rfl hk [0] (by decide) rfl rfl rfl rfl rfl rfl rfl) rfl ?_
  repeat (first | refine wk hT rfl rfl ?_ | refine wd hT rfl rfl rfl ?_ | refine wz hT rfl ?_ | refine AWd_nil ?_ | refine AWk_nil ?_ | refine wh hT rfl rfl rfl rfl ?_ | refine wg hT rfl rfl rfl rfl rfl ?_ | refine AW_seq ?_ | refine AW_region ?_ | refine wx mixed ?_ | refine AW_block ?_ | refine AW_skip ?_ | refine AW_exit ?_ | refine AW_ret ?_)
  refine AWk_gop rfl rfl rfl (fun hg => ⟨by first | exact True.intro | exact ⟨hg, True.intro⟩ | exact ⟨hg, hg, True.intro⟩, callS1 rfl rfl hrest [0] (by decide) rfl rfl rfl rfl rfl rfl rfl⟩) ?_
  repeat (first | refine wk hT rfl rfl ?_ | refine wd hT rfl rfl rfl ?_ | refine wz hT rfl ?_ | refine AWd_nil ?_ | refine AWk_nil ?_ | refine wh hT rfl rfl rfl rfl ?_ | refine wg hT rfl rfl rfl rfl rfl ?_ | refine AW_seq ?_ | refine AW_region ?_ | refine wx mixed ?_ | refine AW_block ?_ | refine AW_skip ?_ | refine AW_exit ?_ | refine AW_ret ?_)
  refine AW_condL rfl (fun h1 => ?_) (fun h1 => ?_)
  · have hm : condM l d nt a = leafM l (nextA l a) := by
      cases d with
      | zero => rfl
      | succ d =>
        rw [condM, if_pos]
        simp at h1; omega
    rw [hm]
    unfold leafM
    generalize nextV l (nextA l a) 13 = x1 at hc1 hr1
    generalize nextV l (nextA l (nextA l a)) 4 = x2 at hc2 hr2
    have hw1 : IntKind.i64.wrap (1 + x1) = 1 + x1 := wrap_id (by omega)
    have hw2 : IntKind.i64.wrap (1 + x2) = 1 + x2 := wrap_id (by omega)
    repeat (first | refine wk hT rfl rfl ?_ | refine wd hT rfl rfl rfl ?_ | refine wz hT rfl ?_ | refine AWd_nil ?_ | refine AWk_nil ?_ | refine wh hT rfl rfl rfl rfl ?_ | refine wg hT rfl rfl rfl rfl rfl ?_ | refine AW_seq ?_ | refine AW_region ?_ | refine wx mixed ?_ | refine AW_block ?_ | refine AW_skip ?_ | refine AW_exit ?_ | refine AW_ret ?_)
    refine AWk_op (callS1 rfl rfl hc1 [0] (by decide) rfl rfl rfl rfl rfl rfl rfl) rfl ?_
    repeat (first | refine wk hT rfl rfl ?_ | refine wd hT rfl rfl rfl ?_ | refine wz hT rfl ?_ | refine AWd_nil ?_ | refine AWk_nil ?_ | refine wh hT rfl rfl rfl rfl ?_ | refine wg hT rfl rfl rfl rfl rfl ?_ | refine AW_seq ?_ | refine AW_region ?_ | refine wx mixed ?_ | refine AW_block ?_ | refine AW_skip ?_ | refine AW_exit ?_ | refine AW_ret ?_)
    refine AWk_op (callS1 rfl rfl hc2 [0] (by decide) rfl rfl rfl rfl rfl rfl rfl) rfl ?_
    repeat (first | refine wk hT rfl rfl ?_ | refine wd hT rfl rfl rfl ?_ | refine wz hT rfl ?_ | refine AWd_nil ?_ | refine AWk_nil ?_ | refine wh hT rfl rfl rfl rfl ?_ | refine wg hT rfl rfl rfl rfl rfl ?_ | refine AW_seq ?_ | refine AW_region ?_ | refine wx mixed ?_ | refine AW_block ?_ | refine AW_skip ?_ | refine AW_exit ?_ | refine AW_ret ?_)
    refine ret_exact (r := cAV (.mk 1 (1 + x1) (1 + x2) [])) rfl (AV.le.agg ⟨.refl _, AV.le.eq (by rw [hw1]), AV.le.eq (by rw [hw2]), AV.le.dat, trivial⟩) rfl rfl rfl rfl ⟨rfl, rfl⟩
  · obtain ⟨d, rfl⟩ : ∃ d', d = d' + 1 := ⟨d - 1, by simp at h1; omega⟩
    have hnl : ¬ (nextV l a 5 < 2 ∨ l.length - nextA l a = 0) := by simp at h1; omega
    have hwd : IntKind.i64.wrap (((d + 1 + 1 : Nat) : Int) - 1) = ((d + 1 : Nat) : Int) := by rw [wrap_id (by omega)]; omega
    rw [condM, if_neg hnl]
    generalize nextV l a 5 = k at hkr hk
    repeat (first | refine wk hT rfl rfl ?_ | refine wd hT rfl rfl rfl ?_ | refine wz hT rfl ?_ | refine AWd_nil ?_ | refine AWk_nil ?_ | refine wh hT rfl rfl rfl rfl ?_ | refine wg hT rfl rfl rfl rfl rfl ?_ | refine AW_seq ?_ | refine AW_region ?_ | refine wx mixed ?_ | refine AW_block ?_ | refine AW_skip ?_ | refine AW_exit ?_ | refine AW_ret ?_)
    refine AW_condL rfl (fun h2 => ?_) (fun h2 => ?_)
    · have h2' : k = 2 := by simpa using h2
      rw [if_pos h2']
      have hi := ih d (by omega) 0 (nextA l a) (by omega) ha1
      generalize condM l d 0 (nextA l a) = p at hi
      obtain ⟨⟨ck, cc, cv, kids⟩, a'⟩ := p
      simp only at hi ⊢
      rw [← hwd] at hi
      repeat (first | refine wk hT rfl rfl ?_ | refine wd hT rfl rfl rfl ?_ | refine wz hT rfl ?_ | refine AWd_nil ?_ | refine AWk_nil ?_ | refine wh hT rfl rfl rfl rfl ?_ | refine wg hT rfl rfl rfl rfl rfl ?_ | refine AW_seq ?_ | refine AW_region ?_ | refine wx mixed ?_ | refine AW_block ?_ | refine AW_skip ?_ | refine AW_exit ?_ | refine AW_ret ?_)
      refine AWk_op (callS1 rfl rfl hi [0] (by decide) rfl rfl rfl rfl rfl (ren_cAV _ _) rfl) rfl ?_
      repeat (first | refine wk hT rfl rfl ?_ | refine wd hT rfl rfl rfl ?_ | refine wz hT rfl ?_ | refine AWd_nil ?_ | refine AWk_nil ?_ | refine wh hT rfl rfl rfl rfl ?_ | refine wg hT rfl rfl rfl rfl rfl ?_ | refine AW_seq ?_ | refine AW_region ?_ | refine wx mixed ?_ | refine AW_block ?_ | refine AW_skip ?_ | refine AW_exit ?_ | refine AW_ret ?_)
      refine ret_exact (r := cAV (.mk 2 0 0 [.mk ck cc cv kids])) rfl (AV.le.agg ⟨.refl _, .refl _, .refl _, AV.le.dat, trivial⟩) rfl rfl rfl rfl ⟨rfl, rfl⟩
    · have h2' : ¬ k = 2 := by simpa using h2
      rw [if_neg h2']
      simp only
      repeat (first | refine AW_exit ?_ | refine AW_skip ?_)
      refine AW_seq (AW_region ?_)
      repeat (first | refine wk hT rfl rfl ?_ | refine wd hT rfl rfl rfl ?_ | refine wz hT rfl ?_ | refine AWd_nil ?_ | refine AWk_nil ?_ | refine wh hT rfl rfl rfl rfl ?_ | refine wg hT rfl rfl rfl rfl rfl ?_)
      refine AW_seq_cut (ι := Unit) (fun _ => [(0, .ptr 0 0), (1, .d (.int .i64 ((d + 1 + 1 : Nat) : Int))), (2, .d (.int .i64 nt)), (6, .ptr 1 0), (8, .d (.int .i64 (if k = 4 then 4 else 3)))])
        (fun _ => [.row (dice l (nextA l a)), .row [.d (.int .i64 0), .d (.int .i64 0), .d (.int .i64 0), .sl 4 [] .full]]) (fun _ => True) ?_ (fun _ _ => ?_)
      · repeat (first | refine wk hT rfl rfl ?_ | refine wd hT rfl rfl rfl ?_ | refine wz hT rfl ?_ | refine AWd_nil ?_ | refine AWk_nil ?_ | refine wh hT rfl rfl rfl rfl ?_ | refine wg hT rfl rfl rfl rfl rfl ?_ | refine AW_seq ?_ | refine AW_region ?_ | refine wx mixed ?_ | refine AW_block ?_ | refine AW_skip ?_ | refine AW_exit ?_ | refine AW_ret ?_)
        refine AW_condL rfl (fun h3 => ?_) (fun h3 => ?_)
        · have h3' : k = 4 := by simpa using h3
          repeat (first | refine wk hT rfl rfl ?_ | refine wd hT rfl rfl rfl ?_ | refine wz hT rfl ?_ | refine AWd_nil ?_ | refine AWk_nil ?_ | refine wh hT rfl rfl rfl rfl ?_ | refine wg hT rfl rfl rfl rfl rfl ?_ | refine AW_seq ?_ | refine AW_region ?_ | refine wx mixed ?_ | refine AW_block ?_ | refine AW_skip ?_ | refine AW_exit ?_ | refine AW_ret ?_)
          exact ⟨(), trivial, ⟨.refl _, .refl _, .refl _, .refl _, AV.le.eq (by rw [if_pos h3']; rfl), trivial⟩, HLe.refl _⟩
        · have h3' : ¬ k = 4 := by simpa using h3
          repeat (first | refine wk hT rfl rfl ?_ | refine wd hT rfl rfl rfl ?_ | refine wz hT rfl ?_ | refine AWd_nil ?_ | refine AWk_nil ?_ | refine wh hT rfl rfl rfl rfl ?_ | refine wg hT rfl rfl rfl rfl rfl ?_ | refine AW_seq ?_ | refine AW_region ?_ | refine wx mixed ?_ | refine AW_block ?_ | refine AW_skip ?_ | refine AW_exit ?_ | refine AW_ret ?_)
          exact ⟨(), trivial, ⟨.refl _, .refl _, .refl _, .refl _, AV.le.eq (by rw [if_neg h3']; rfl), trivial⟩, HLe.refl _⟩
      generalize hk0 : (if k = 4 then (4 : Int) else 3) = k0
      have hk0r : k0 = 3 ∨ k0 = 4 := by rw [← hk0]; split <;> omega
      have hkm : kindM k nt = if k0 = nt then 7 - k0 else k0 := by unfold kindM; rw [hk0]
      refine AW_seq_cut (ι := Unit) (fun _ => [(0, .ptr 0 0), (1, .d (.int .i64 ((d + 1 + 1 : Nat) : Int))), (6, .ptr 1 0), (8, .d (.int .i64 (kindM k nt)))])
        (fun _ => [.row (dice l (nextA l a)), .row [.d (.int .i64 0), .d (.int .i64 0), .d (.int .i64 0), .sl 4 [] .full]]) (fun _ => True) ?_ (fun _ _ => ?_)
      · repeat (first | refine wk hT rfl rfl ?_ | refine wd hT rfl rfl rfl ?_ | refine wz hT rfl ?_ | refine AWd_nil ?_ | refine AWk_nil ?_ | refine wh hT rfl rfl rfl rfl ?_ | refine wg hT rfl rfl rfl rfl rfl ?_ | refine AW_seq ?_ | refine AW_region ?_ | refine wx mixed ?_ | refine AW_block ?_ | refine AW_skip ?_ | refine AW_exit ?_ | refine AW_ret ?_)
        refine AW_condL rfl (fun h3 => ?_) (fun h3 => ?_)
        · have h3' : k0 = nt := by simpa using h3
          have hw3 : IntKind.i64.wrap (7 - k0) = 7 - k0 := wrap_id (by omega)
          repeat (first | refine wk hT rfl rfl ?_ | refine wd hT rfl rfl rfl ?_ | refine wz hT rfl ?_ | refine AWd_nil ?_ | refine AWk_nil ?_ | refine wh hT rfl rfl rfl rfl ?_ | refine wg hT rfl rfl rfl rfl rfl ?_ | refine AW_seq ?_ | refine AW_region ?_ | refine wx mixed ?_ | refine AW_block ?_ | refine AW_skip ?_ | refine AW_exit ?_ | refine AW_ret ?_)
          exact ⟨(), trivial, ⟨.refl _, .refl _, .refl _, AV.le.eq (by rw [hkm, if_pos h3']; show AV.d (.int .i64 (IntKind.i64.wrap (7 - k0))) = _; rw [hw3]), trivial⟩, HLe.refl _⟩
        · have h3' : ¬ k0 = nt := by simpa using h3
          repeat (first | refine wk hT rfl rfl ?_ | refine wd hT rfl rfl rfl ?_ | refine wz hT rfl ?_ | refine AWd_nil ?_ | refine AWk_nil ?_ | refine wh hT rfl rfl rfl rfl ?_ | refine wg hT rfl rfl rfl rfl rfl ?_ | refine AW_seq ?_ | refine AW_region ?_ | refine wx mixed ?_ | refine AW_block ?_ | refine AW_skip ?_ | refine AW_exit ?_ | refine AW_ret ?_)
          exact ⟨(), trivial, ⟨.refl _, .refl _, .refl _, AV.le.eq (by rw [hkm, if_neg h3']; rfl), trivial⟩, HLe.refl _⟩
      generalize kindM k nt = kind
      have hf := kidsL_ok (fun a ha => condM_ok l d kind a ha)
      have hi := ih d (by omega) kind
      generalize condM l d kind = f at hf hi
      generalize hx : nextV l (nextA l a) 2 = x at hr3 hc3
      have hwx : IntKind.i64.wrap (2 + x) = (((2 + x).toNat : Nat) : Int) := by rw [wrap_id (by omega)]; omega
      have hm3 : (2 + x).toNat ≤ 3 := by omega
      generalize (2 + x).toNat = m0 at hwx hm3
      generalize hfin : kidsL f m0 [] (nextA l (nextA l a)) = fin
      repeat (first | refine wk hT rfl rfl ?_ | refine wd hT rfl rfl rfl ?_ | refine wz hT rfl ?_ | refine AWd_nil ?_ | refine AWk_nil ?_ | refine wh hT rfl rfl rfl rfl ?_ | refine wg hT rfl rfl rfl rfl rfl ?_ | refine AW_seq ?_ | refine AW_region ?_ | refine wx mixed ?_ | refine AW_block ?_ | refine AW_skip ?_ | refine AW_exit ?_ | refine AW_ret ?_)
      refine AWk_op (callS1 rfl rfl hc3 [0] (by decide) rfl rfl rfl rfl rfl rfl rfl) rfl ?_
      repeat (first | refine wk hT rfl rfl ?_ | refine wd hT rfl rfl rfl ?_ | refine wz hT rfl ?_ | refine AWd_nil ?_ | refine AWk_nil ?_ | refine wh hT rfl rfl rfl rfl ?_ | refine wg hT rfl rfl rfl rfl rfl ?_ | refine AW_seq ?_ | refine AW_region ?_ | refine wx mixed ?_ | refine AW_block ?_ | refine AW_skip ?_ | refine AW_exit ?_ | refine AW_ret ?_)
      refine AW_room (AW_acquireH 2 3 3 4 rfl rfl rfl ?_)
      refine AW_loopL (ι := List Cond × Nat × Nat) (fun x => [(0, .ptr 0 0), (1, .d (.int .i64 ((d + 1 + 1 : Nat) : Int))), (6, .ptr 1 0), (8, .d (.int .i64 kind)), (9, .ptr 2 0), (10, .d (.int .i64 (x.2.2 : Int)))])
        (fun x => [.row (dice l x.2.1), .row [.d (.int .i64 0), .d (.int .i64 0), .d (.int .i64 0), .sl 4 [] .full], .row [.d (.int .i64 kind), .d (.int .i64 0), .d (.int .i64 0), .sl 4 (encCs x.1) (.right 3)], .right 4 (encCs x.1).length])
        (fun x => x.2.1 ≤ l.length ∧ x.1.length + x.2.2 ≤ 3 ∧ kidsL f x.2.2 x.1 x.2.1 = fin) (fun x => x.2.2) ([], nextA l (nextA l a), m0) ⟨ha2, by simpa using hm3, hfin⟩
        ⟨.refl _, .refl _, .refl _, .refl _, .refl _, AV.le.eq (by show AV.d (.int .i64 (IntKind.i64.wrap (2 + x))) = _; rw [hwx]), trivial⟩ (HLe.refl _) ?_
      rintro ⟨acc, b, m⟩ ⟨j1, j2, j3⟩
      simp only at j1 j2 j3 ⊢
      have hlen := encCs_length acc
      repeat (first | refine wk hT rfl rfl ?_ | refine wd hT rfl rfl rfl ?_ | refine wz hT rfl ?_ | refine AWd_nil ?_ | refine AWk_nil ?_ | refine wh hT rfl rfl rfl rfl ?_ | refine wg hT rfl rfl rfl rfl rfl ?_ | refine AW_seq ?_ | refine AW_region ?_ | refine wx mixed ?_ | refine AW_block ?_ | refine AW_skip ?_ | refine AW_exit ?_ | refine AW_ret ?_)
      refine AW_condL rfl (fun h3 => ?_) (fun h3 => ?_)
      · obtain ⟨m, rfl⟩ : ∃ m', m = m' + 1 := ⟨m - 1, by simp at h3; omega⟩
        have hwm : IntKind.i64.wrap (((m + 1 : Nat) : Int) - 1) = (m : Int) := by rw [wrap_id (by omega)]; omega
        have hib := hi b (by omega) j1
        have hfb := hf 1 [] b j1 (fun c hc => by cases hc)
        rw [kidsL] at j3 hfb
        generalize f b = p at hib j3 hfb
        obtain ⟨⟨ck, cc, cv, kids⟩, b'⟩ := p
        simp only at hib j3 hfb
        have hb' : b' ≤ l.length := hfb.1
        rw [← hwd] at hib
        repeat (first | refine wk hT rfl rfl ?_ | refine wd hT rfl rfl rfl ?_ | refine wz hT rfl ?_ | refine AWd_nil ?_ | refine AWk_nil ?_ | refine wh hT rfl rfl rfl rfl ?_ | refine wg hT rfl rfl rfl rfl rfl ?_ | refine AW_seq ?_ | refine AW_region ?_ | refine AW_block ?_ | refine AW_skip ?_ | refine AW_exit ?_ | refine AW_ret ?_)
        refine AW_drawG (fun i => bif Nat.beq i 1 || Nat.beq i 10 then [2] else bif Nat.beq i 6 then [0] else bif Nat.beq i 8 then [3] else []) (fun i => bif Nat.beq i 10 then [2] else bif Nat.beq i 6 then [0] else bif Nat.beq i 8 then [3] else []) mixed (by kernel_rfl) ?_
        repeat (first | refine AWg_load hT rfl rfl rfl rfl (by first | exact List.mem_cons_self | exact sm) rfl ?_ | refine AWg_pure hT (fun _ => rfl) rfl rfl (by first | exact True.intro | omega | exact sd) ?_ | refine AWg_store hT rfl rfl rfl (by first | exact List.mem_cons_self | exact sm) rfl ?_ | refine AWd_nil ?_)
        refine AWg_op (v := cAV (.mk ck cc cv kids)) (os := [.row (dice l b')]) (fun hx hk1 hk2 => callS1 rfl rfl hib [0] (by decide) (by show [hx[0]?] = _; rw [hk2 0 List.mem_cons_self]; rfl) rfl rfl rfl rfl (ren_cAV _ _) rfl) rfl ?_
        refine AWg_op (os := []) (fun k hk1 hk2 => buildSl_ok hT rfl rfl) rfl ?_
        refine AWg_op (v := .sl 4 (encCs acc ++ encCs [.mk ck cc cv kids]) (.right 3)) (os := [.right 4 ((encCs acc).length + (encCs [.mk ck cc cv kids]).length)]) (fun hx hk1 hk2 => append_right (i := 3) hT rfl rfl rfl rfl ((hk2 3 List.mem_cons_self).trans rfl) rfl (by show ((encCs acc).length + (encCs [.mk ck cc cv kids]).length) * (48 + 1) ≤ 140737488355328; rw [encCs_length, encCs_length, List.length_singleton]; omega)) rfl ?_
        repeat (first | refine AWg_load hT rfl rfl rfl rfl (by first | exact List.mem_cons_self | exact sm) rfl ?_ | refine AWg_pure hT (fun _ => rfl) rfl rfl (by first | exact True.intro | omega | exact sd) ?_ | refine AWg_store hT rfl rfl rfl (by first | exact List.mem_cons_self | exact sm) rfl ?_ | refine AWd_nil ?_)
        repeat (first | refine wk hT rfl rfl ?_ | refine wd hT rfl rfl rfl ?_ | refine wz hT rfl ?_ | refine AWd_nil ?_ | refine AWk_nil ?_ | refine wh hT rfl rfl rfl rfl ?_ | refine wg hT rfl rfl rfl rfl rfl ?_ | refine AW_seq ?_ | refine AW_region ?_ | refine wx mixed ?_ | refine AW_block ?_ | refine AW_skip ?_ | refine AW_exit ?_ | refine AW_ret ?_)
        refine ⟨(acc ++ [.mk ck cc cv kids], b', m), ⟨hb', by simp only [List.length_append, List.length_singleton]; omega, j3⟩, by simp only; omega, ⟨.refl _, .refl _, .refl _, .refl _, .refl _, AV.le.eq (by show AV.d (.int .i64 (IntKind.i64.wrap (((m + 1 : Nat) : Int) - 1))) = _; rw [hwm]), trivial⟩, ⟨ObLe.refl _, ObLe.refl _, ⟨.refl _, .refl _, .refl _, AV.le.eq ?_, trivial⟩, ⟨rfl, ?_⟩, trivial⟩⟩
        · rw [encCs_append]
        · rw [encCs_append, List.length_append]
      · have hm0 : m = 0 := by simp at h3; omega
        subst hm0
        rw [kidsL] at j3
        subst j3
        repeat (first | refine wk hT rfl rfl ?_ | refine wd hT rfl rfl rfl ?_ | refine wz hT rfl ?_ | refine AWd_nil ?_ | refine AWk_nil ?_ | refine wh hT rfl rfl rfl rfl ?_ | refine wg hT rfl rfl rfl rfl rfl ?_ | refine AW_seq ?_ | refine AW_region ?_ | refine wx mixed ?_ | refine AW_block ?_ | refine AW_skip ?_ | refine AW_exit ?_ | refine AW_ret ?_)
        refine ret_exact (r := cAV (.mk kind 0 0 acc)) rfl (AV.le.agg ⟨.refl _, .refl _, .refl _, AV.le.dat, trivial⟩) rfl rfl rfl rfl ⟨rfl, rfl⟩
end Tdoc
