/- Package policy: results of checks, and the first that a condition names. -/
import Derived.Test.YtofhpjcdecjejaaK4
import Derived.Test.YtofhpjcdecjejaaK3
import Derived.Test.YtofhpjcdecjejaaK2
set_option linter.unusedVariables false
set_option linter.unusedSimpArgs false
namespace Tdoc
open Go Go.Proofs

abbrev Res := Int × Int
def encRe (r : Res) : List Dat := [.int .i64 r.1, .int .i64 r.2]
def encRes (l : List Res) : List (List Dat) := l.map encRe
theorem encRes_length (l : List Res) : (encRes l).length = l.length := by simp [encRes]
def reAV (r : Res) : AV := .agg ((encRe r).map .d)

/-- The index of a check's first result, or -1. -/
def resIdx (ch : Int) (l : List Res) : Int := fIdx (fun r => r.1 == ch) l

set_option maxRecDepth 100000 in
theorem forced1_spec (k c v : Int) (kids : List Cond) (r : Res) : Spec Try.prog 56 ([] ++ ([reAV r] ++ [.ptr 0 0])) [.row ((encC (.mk k c v kids)).map .d)] (fun a h' => a = .d (.bool (r.1 == c)) ∧ h' = [.row ((encC (.mk k c v kids)).map .d)]) := by
  obtain ⟨a, b⟩ := r
  refine Spec_of_body hT Try.func56 rfl rfl rfl rfl ?_
  intro E hE
  repeat (first | refine AWd_step hT rfl rfl rfl (by first | exact True.intro | omega | exact sd) ?_ | refine AWk_step hT rfl rfl (by first | exact True.intro | omega | exact sd) ?_ | refine AWk_step0 hT rfl (by first | exact True.intro | omega | exact sd) ?_ | refine AWd_nil ?_ | refine AWk_nil ?_ | refine AWd_gstep hT rfl rfl rfl rfl rfl (by intro hg; first | exact ⟨True.intro, True.intro⟩ | exact sg hg) ?_ | refine AWk_gstep hT rfl rfl rfl rfl (by intro hg; first | exact ⟨True.intro, True.intro⟩ | exact sg hg) ?_ | refine AW_seq ?_ | refine AW_region ?_ | refine AW_draw mixed (by kernel_rfl) ?_ | refine AW_block ?_ | refine AW_skip ?_ | refine AW_exit ?_ | refine AW_ret ?_)
  exact ret_exact rfl (.refl _) rfl rfl rfl rfl ⟨rfl, rfl⟩

set_option maxRecDepth 100000 in
theorem holds2_spec (k c v : Int) (kids : List Cond) (r : Res) : Spec Try.prog 58 ([] ++ ([reAV r] ++ [.ptr 0 0])) [.row ((encC (.mk k c v kids)).map .d)] (fun a h' => a = .d (.bool (r.1 == c)) ∧ h' = [.row ((encC (.mk k c v kids)).map .d)]) := by
  obtain ⟨a, b⟩ := r
  refine Spec_of_body hT Try.func58 rfl rfl rfl rfl ?_
  intro E hE
  repeat (first | refine AWd_step hT rfl rfl rfl (by first | exact True.intro | omega | exact sd) ?_ | refine AWk_step hT rfl rfl (by first | exact True.intro | omega | exact sd) ?_ | refine AWk_step0 hT rfl (by first | exact True.intro | omega | exact sd) ?_ | refine AWd_nil ?_ | refine AWk_nil ?_ | refine AWd_gstep hT rfl rfl rfl rfl rfl (by intro hg; first | exact ⟨True.intro, True.intro⟩ | exact sg hg) ?_ | refine AWk_gstep hT rfl rfl rfl rfl (by intro hg; first | exact ⟨True.intro, True.intro⟩ | exact sg hg) ?_ | refine AW_seq ?_ | refine AW_region ?_ | refine AW_draw mixed (by kernel_rfl) ?_ | refine AW_block ?_ | refine AW_skip ?_ | refine AW_exit ?_ | refine AW_ret ?_)
  exact ret_exact rfl (.refl _) rfl rfl rfl rfl ⟨rfl, rfl⟩

set_option maxRecDepth 100000 in
theorem IndexFuncR_spec {l : List Res} {g : FuncId} {k c v : Int} {kids : List Cond}
    (hp : ∀ r : Res, Spec Try.prog g ([] ++ ([reAV r] ++ [.ptr 0 0])) [.row ((encC (.mk k c v kids)).map .d)] (fun a h' => a = .d (.bool (r.1 == c)) ∧ h' = [.row ((encC (.mk k c v kids)).map .d)])) (hl : l.length ≤ 1000000000) :
    Spec Try.prog 55 [.d (.sl 2 (encRes l)), .fn (.func g) [] [.ptr 0 0]] [.row ((encC (.mk k c v kids)).map .d)] (fun r h' => r = .d (.int .i64 (resIdx c l)) ∧ h' = [.row ((encC (.mk k c v kids)).map .d)]) := by
  refine Spec_of_body hT Try.func55 rfl rfl rfl rfl ?_
  intro E hE
  have hlen := encRes_length l
  repeat (first | refine AWd_step hT rfl rfl rfl (by first | exact True.intro | omega | exact sd) ?_ | refine AWk_step hT rfl rfl (by first | exact True.intro | omega | exact sd) ?_ | refine AWk_step0 hT rfl (by first | exact True.intro | omega | exact sd) ?_ | refine AWd_nil ?_ | refine AWk_nil ?_ | refine AWd_gstep hT rfl rfl rfl rfl rfl (by intro hg; first | exact ⟨True.intro, True.intro⟩ | exact sg hg) ?_ | refine AWk_gstep hT rfl rfl rfl rfl (by intro hg; first | exact ⟨True.intro, True.intro⟩ | exact sg hg) ?_ | refine AW_seq ?_ | refine AW_region ?_ | refine AW_draw mixed (by kernel_rfl) ?_ | refine AW_block ?_ | refine AW_skip ?_ | refine AW_exit ?_ | refine AW_ret ?_)
  refine AW_loopL (ι := Nat) (fun j => [(0, .d (.sl 2 (encRes l))), (1, .fn (.func g) [] [.ptr 0 0]), (7, .d (.int .i64 (encRes l).length)), (8, .d (.int .i64 j))]) (fun _ => [.row ((encC (.mk k c v kids)).map .d)]) (fun j => j ≤ l.length ∧ ∀ i, (hi : i < j) → (hi2 : i < l.length) → (l[i].1 == c) = false) (fun j => l.length - j) 0
    ⟨by omega, fun j hj => by omega⟩ ⟨.refl _, .refl _, .refl _, .refl _, trivial⟩ (HLe.refl _) ?_
  intro j ⟨hj, hb⟩
  repeat (first | refine AWd_step hT rfl rfl rfl (by first | exact True.intro | omega | exact sd) ?_ | refine AWk_step hT rfl rfl (by first | exact True.intro | omega | exact sd) ?_ | refine AWk_step0 hT rfl (by first | exact True.intro | omega | exact sd) ?_ | refine AWd_nil ?_ | refine AWk_nil ?_ | refine AWd_gstep hT rfl rfl rfl rfl rfl (by intro hg; first | exact ⟨True.intro, True.intro⟩ | exact sg hg) ?_ | refine AWk_gstep hT rfl rfl rfl rfl (by intro hg; first | exact ⟨True.intro, True.intro⟩ | exact sg hg) ?_ | refine AW_seq ?_ | refine AW_region ?_ | refine AW_draw mixed (by kernel_rfl) ?_ | refine AW_block ?_ | refine AW_skip ?_ | refine AW_exit ?_ | refine AW_ret ?_)
  refine AW_condL rfl (fun h1' => ?_) (fun h1' => ?_)
  · have hlt : j < l.length := by rw [hlen] at h1'; simpa using h1'
    have hel : (encRes l)[((j : Int)).toNat]? = some (encRe l[j]) := by simp [encRes, hlt]
    have hpk := hp l[j]
    generalize hc : l[j] = r at hel hpk
    obtain ⟨ra, rb⟩ := r
    repeat (first | refine AWd_step hT rfl rfl rfl (by first | exact True.intro | omega | exact sd) ?_ | refine AWk_step hT rfl rfl (by first | exact True.intro | omega | exact sd) ?_ | refine AWk_step0 hT rfl (by first | exact True.intro | omega | exact sd) ?_ | refine AWd_nil ?_ | refine AWk_nil ?_ | refine AWd_gstep hT rfl rfl rfl rfl rfl (by intro hg; first | exact ⟨True.intro, True.intro⟩ | exact sg hg) ?_ | refine AWk_gstep hT rfl rfl rfl rfl (by intro hg; first | exact ⟨True.intro, True.intro⟩ | exact sg hg) ?_ | refine AW_seq ?_ | refine AW_region ?_ | refine AW_draw mixed (by kernel_rfl) ?_ | refine AW_block ?_ | refine AW_skip ?_ | refine AW_exit ?_ | refine AW_ret ?_)
    refine AWk_op (OpS_of_pure (indexAddr_ok hT rfl rfl rfl rfl (by omega) hel)) rfl ?_
    repeat (first | refine AWd_step hT rfl rfl rfl (by first | exact True.intro | omega | exact sd) ?_ | refine AWk_step hT rfl rfl (by first | exact True.intro | omega | exact sd) ?_ | refine AWk_step0 hT rfl (by first | exact True.intro | omega | exact sd) ?_ | refine AWd_nil ?_ | refine AWk_nil ?_ | refine AWd_gstep hT rfl rfl rfl rfl rfl (by intro hg; first | exact ⟨True.intro, True.intro⟩ | exact sg hg) ?_ | refine AWk_gstep hT rfl rfl rfl rfl (by intro hg; first | exact ⟨True.intro, True.intro⟩ | exact sg hg) ?_ | refine AW_seq ?_ | refine AW_region ?_ | refine AW_draw mixed (by kernel_rfl) ?_ | refine AW_block ?_ | refine AW_skip ?_ | refine AW_exit ?_ | refine AW_ret ?_)
    refine AWk_op (callS1 rfl rfl hpk [0] (by decide) rfl rfl rfl rfl rfl rfl rfl) rfl ?_
    repeat (first | refine AWd_step hT rfl rfl rfl (by first | exact True.intro | omega | exact sd) ?_ | refine AWk_step hT rfl rfl (by first | exact True.intro | omega | exact sd) ?_ | refine AWk_step0 hT rfl (by first | exact True.intro | omega | exact sd) ?_ | refine AWd_nil ?_ | refine AWk_nil ?_ | refine AWd_gstep hT rfl rfl rfl rfl rfl (by intro hg; first | exact ⟨True.intro, True.intro⟩ | exact sg hg) ?_ | refine AWk_gstep hT rfl rfl rfl rfl (by intro hg; first | exact ⟨True.intro, True.intro⟩ | exact sg hg) ?_ | refine AW_seq ?_ | refine AW_region ?_ | refine AW_draw mixed (by kernel_rfl) ?_ | refine AW_block ?_ | refine AW_skip ?_ | refine AW_exit ?_ | refine AW_ret ?_)
    refine AW_condL rfl (fun h2' => ?_) (fun h2' => ?_)
    · repeat (first | refine AWd_step hT rfl rfl rfl (by first | exact True.intro | omega | exact sd) ?_ | refine AWk_step hT rfl rfl (by first | exact True.intro | omega | exact sd) ?_ | refine AWk_step0 hT rfl (by first | exact True.intro | omega | exact sd) ?_ | refine AWd_nil ?_ | refine AWk_nil ?_ | refine AWd_gstep hT rfl rfl rfl rfl rfl (by intro hg; first | exact ⟨True.intro, True.intro⟩ | exact sg hg) ?_ | refine AWk_gstep hT rfl rfl rfl rfl (by intro hg; first | exact ⟨True.intro, True.intro⟩ | exact sg hg) ?_ | refine AW_seq ?_ | refine AW_region ?_ | refine AW_draw mixed (by kernel_rfl) ?_ | refine AW_block ?_ | refine AW_skip ?_ | refine AW_exit ?_ | refine AW_ret ?_)
      refine ret_exact rfl (.refl _) rfl rfl rfl rfl ⟨?_, rfl⟩
      show AV.d (.int .i64 (j : Int)) = _
      rw [resIdx, fIdx_at hlt (by rw [hc]; exact h2') (fun i hi hi2 => hb i hi hi2)]
    · repeat (first | refine AWd_step hT rfl rfl rfl (by first | exact True.intro | omega | exact sd) ?_ | refine AWk_step hT rfl rfl (by first | exact True.intro | omega | exact sd) ?_ | refine AWk_step0 hT rfl (by first | exact True.intro | omega | exact sd) ?_ | refine AWd_nil ?_ | refine AWk_nil ?_ | refine AWd_gstep hT rfl rfl rfl rfl rfl (by intro hg; first | exact ⟨True.intro, True.intro⟩ | exact sg hg) ?_ | refine AWk_gstep hT rfl rfl rfl rfl (by intro hg; first | exact ⟨True.intro, True.intro⟩ | exact sg hg) ?_ | refine AW_seq ?_ | refine AW_region ?_ | refine AW_draw mixed (by kernel_rfl) ?_ | refine AW_block ?_ | refine AW_skip ?_ | refine AW_exit ?_ | refine AW_ret ?_)
      refine ⟨j + 1, ⟨by omega, fun i hi hi2 => ?_⟩, by omega, ⟨.refl _, .refl _, .refl _, AV.le.eq ?_, trivial⟩, HLe.refl _⟩
      · by_cases hij : i = j
        · subst hij; rw [hc]; exact h2'
        · exact hb i (by omega) hi2
      · show AV.d (.int .i64 (IntKind.i64.wrap ((j : Int) + 1))) = _
        rw [wrap_id (by omega)]; rfl
  · have hge : j = l.length := by rw [hlen] at h1'; simp at h1'; omega
    repeat (first | refine AWd_step hT rfl rfl rfl (by first | exact True.intro | omega | exact sd) ?_ | refine AWk_step hT rfl rfl (by first | exact True.intro | omega | exact sd) ?_ | refine AWk_step0 hT rfl (by first | exact True.intro | omega | exact sd) ?_ | refine AWd_nil ?_ | refine AWk_nil ?_ | refine AWd_gstep hT rfl rfl rfl rfl rfl (by intro hg; first | exact ⟨True.intro, True.intro⟩ | exact sg hg) ?_ | refine AWk_gstep hT rfl rfl rfl rfl (by intro hg; first | exact ⟨True.intro, True.intro⟩ | exact sg hg) ?_ | refine AW_seq ?_ | refine AW_region ?_ | refine AW_draw mixed (by kernel_rfl) ?_ | refine AW_block ?_ | refine AW_skip ?_ | refine AW_exit ?_ | refine AW_ret ?_)
    refine ret_exact rfl (.refl _) rfl rfl rfl rfl ⟨?_, rfl⟩
    show AV.d (.int .i64 (-1)) = _
    rw [resIdx, fIdx_none (fun i hi => hb i (by omega) hi)]

/-- What results say: the first result of a check, if any. -/
def valOf (ch : Int) (l : List Res) : Option Int := (l.find? fun r => r.1 == ch).map (·.2)

theorem resIdx_some {ch : Int} {l : List Res} {x : Int} (h : valOf ch l = some x) : ∃ i : Nat, ∃ h : i < l.length, resIdx ch l = i ∧ l[i].2 = x := by
  unfold valOf at h
  cases hf : l.find? fun r => r.1 == ch with
  | none => rw [hf] at h; cases h
  | some r =>
    rw [hf] at h
    obtain ⟨h1, i, hi, h2, h3⟩ := List.find?_eq_some_iff_getElem.1 hf
    refine ⟨i, hi, ?_, by rw [h2]; simpa using h⟩
    exact fIdx_at hi (by rw [h2]; exact h1) (fun j hj hj2 => by simpa using h3 j hj)
theorem resIdx_none {ch : Int} {l : List Res} (h : valOf ch l = none) : resIdx ch l = -1 := by
  unfold valOf at h
  rw [Option.map_eq_none_iff, List.find?_eq_none] at h
  exact fIdx_none fun j hj => by simpa using h l[j] (List.getElem_mem hj)
end Tdoc
/- Package policy: what is certain about a condition. -/
set_option linter.unusedVariables false
set_option linter.unusedSimpArgs false
namespace Tdoc
open Go Go.Proofs

def foldF (one : Int) : Int → List Int → Int
  | all, [] => all
  | all, f :: r => if f = one then one else foldF one (if f = 0 then 0 else all) r

def isF (v : Int) : Option Int → Int
  | none => 0
  | some x => if x = v then 1 else 2
def notF : List Int → Int
  | [] => 0
  | f :: _ => Int.tmod (3 - f) 3

def forcedF (l : List Res) : Nat → Cond → Int
  | 0, _ => 0
  | d + 1, .mk k c v kids =>
    if k = 1 then isF v (valOf c l) else if k = 2 then notF (kids.map fun x => forcedF l d x)
    else foldF (if k = 4 then 1 else 2) (if k = 4 then 2 else 1) (kids.map fun x => forcedF l d x)

theorem foldF_range {one : Int} (h1 : 0 ≤ one ∧ one ≤ 2) : ∀ (r : List Int) (all : Int), 0 ≤ all ∧ all ≤ 2 → 0 ≤ foldF one all r ∧ foldF one all r ≤ 2
  | [], all, h => h
  | f :: r, all, h => by
    rw [foldF]
    split
    · exact h1
    · exact foldF_range h1 r _ (by split <;> omega)

theorem forcedF_range (l : List Res) : ∀ (d : Nat) (c : Cond), 0 ≤ forcedF l d c ∧ forcedF l d c ≤ 2
  | 0, c => by simp [forcedF]
  | d + 1, .mk k c v kids => by
    rw [forcedF]
    split
    · cases valOf c l with
      | none => simp [isF]
      | some x => simp only [isF]; split <;> omega
    · split
      · cases kids with
        | nil => simp [notF]
        | cons x rest =>
          have := forcedF_range l d x
          simp only [notF, List.map_cons]
          rw [Int.tmod_eq_emod_of_nonneg (by omega)]
          omega
      · exact foldF_range (by split <;> omega) _ _ (by split <;> omega)

set_option maxHeartbeats 8000000 in
set_option maxRecDepth 100000 in
theorem forced_spec (l : List Res) (hl : l.length ≤ 1000000) : ∀ (d : Nat) (c : Cond), validC d c = true → smallC c → Spec Try.prog 36 [cAV c, .d (.sl 2 (encRes l))] [] (fun r h' => r = .d (.int .i64 (forcedF l d c)) ∧ h' = [])
  | 0, c, hv, _ => by simp [validC] at hv
  | d + 1, .mk k c v kids, hv, hs => by
    have hlen := encCs_length kids
    have hs1 := hs.1
    have ih : ∀ x, x ∈ kids → validC d x = true → Spec Try.prog 36 [cAV x, .d (.sl 2 (encRes l))] [] (fun r h' => r = .d (.int .i64 (forcedF l d x)) ∧ h' = []) := fun x hx hvx => forced_spec l hl d x hvx (smallCs_at hs.2 x hx)
    have hix := IndexFuncR_spec (l := l) (g := 56) (k := k) (c := c) (v := v) (kids := kids) (fun r => forced1_spec k c v kids r) (by omega)
    refine Spec_of_body hT Try.func36 rfl rfl rfl rfl ?_
    intro E hE
    rw [forcedF]
    repeat (first | refine AWd_step hT rfl rfl rfl (by first | exact True.intro | omega | exact sd) ?_ | refine AWk_step hT rfl rfl (by first | exact True.intro | omega | exact sd) ?_ | refine AWk_step0 hT rfl (by first | exact True.intro | omega | exact sd) ?_ | refine AWd_nil ?_ | refine AWk_nil ?_ | refine AWd_gstep hT rfl rfl rfl rfl rfl (by intro hg; first | exact ⟨True.intro, True.intro⟩ | exact sg hg) ?_ | refine AWk_gstep hT rfl rfl rfl rfl (by intro hg; first | exact ⟨True.intro, True.intro⟩ | exact sg hg) ?_ | refine AW_seq ?_ | refine AW_region ?_ | refine AW_draw mixed (by kernel_rfl) ?_ | refine AW_block ?_ | refine AW_skip ?_ | refine AW_exit ?_ | refine AW_ret ?_)
    refine AW_condL rfl (fun hk => ?_) (fun hk => ?_)
    · have hk' : k = 1 := by simpa using hk
      rw [if_pos hk']
      repeat (first | refine AWd_step hT rfl rfl rfl (by first | exact True.intro | omega | exact sd) ?_ | refine AWk_step hT rfl rfl (by first | exact True.intro | omega | exact sd) ?_ | refine AWk_step0 hT rfl (by first | exact True.intro | omega | exact sd) ?_ | refine AWd_nil ?_ | refine AWk_nil ?_ | refine AWd_gstep hT rfl rfl rfl rfl rfl (by intro hg; first | exact ⟨True.intro, True.intro⟩ | exact sg hg) ?_ | refine AWk_gstep hT rfl rfl rfl rfl (by intro hg; first | exact ⟨True.intro, True.intro⟩ | exact sg hg) ?_ | refine AW_seq ?_ | refine AW_region ?_ | refine AW_draw mixed (by kernel_rfl) ?_ | refine AW_block ?_ | refine AW_skip ?_ | refine AW_exit ?_ | refine AW_ret ?_)
      refine AWk_op (callS1 rfl rfl hix [0] (by decide) rfl rfl rfl rfl rfl rfl rfl) rfl ?_
      repeat (first | refine AWd_step hT rfl rfl rfl (by first | exact True.intro | omega | exact sd) ?_ | refine AWk_step hT rfl rfl (by first | exact True.intro | omega | exact sd) ?_ | refine AWk_step0 hT rfl (by first | exact True.intro | omega | exact sd) ?_ | refine AWd_nil ?_ | refine AWk_nil ?_ | refine AWd_gstep hT rfl rfl rfl rfl rfl (by intro hg; first | exact ⟨True.intro, True.intro⟩ | exact sg hg) ?_ | refine AWk_gstep hT rfl rfl rfl rfl (by intro hg; first | exact ⟨True.intro, True.intro⟩ | exact sg hg) ?_ | refine AW_seq ?_ | refine AW_region ?_ | refine AW_draw mixed (by kernel_rfl) ?_ | refine AW_block ?_ | refine AW_skip ?_ | refine AW_exit ?_ | refine AW_ret ?_)
      cases hvo : valOf c l with
      | none =>
        rw [resIdx_none hvo]
        refine AW_condL rfl (fun _ => ?_) (fun hf => by simp at hf)
        repeat (first | refine AWd_step hT rfl rfl rfl (by first | exact True.intro | omega | exact sd) ?_ | refine AWk_step hT rfl rfl (by first | exact True.intro | omega | exact sd) ?_ | refine AWk_step0 hT rfl (by first | exact True.intro | omega | exact sd) ?_ | refine AWd_nil ?_ | refine AWk_nil ?_ | refine AWd_gstep hT rfl rfl rfl rfl rfl (by intro hg; first | exact ⟨True.intro, True.intro⟩ | exact sg hg) ?_ | refine AWk_gstep hT rfl rfl rfl rfl (by intro hg; first | exact ⟨True.intro, True.intro⟩ | exact sg hg) ?_ | refine AW_seq ?_ | refine AW_region ?_ | refine AW_draw mixed (by kernel_rfl) ?_ | refine AW_block ?_ | refine AW_skip ?_ | refine AW_exit ?_ | refine AW_ret ?_)
        exact ret_exact rfl (.refl _) rfl rfl rfl rfl ⟨rfl, rfl⟩
      | some x =>
        obtain ⟨i, hi, h1, h2⟩ := resIdx_some hvo
        rw [h1]
        have hel : (encRes l)[((i : Int)).toNat]? = some [.int .i64 l[i].1, .int .i64 l[i].2] := by simp [encRes, hi, encRe]
        refine AW_condL rfl (fun hf => by simp at hf; omega) (fun _ => ?_)
        repeat (first | refine AWd_step hT rfl rfl rfl (by first | exact True.intro | omega | exact sd) ?_ | refine AWk_step hT rfl rfl (by first | exact True.intro | omega | exact sd) ?_ | refine AWk_step0 hT rfl (by first | exact True.intro | omega | exact sd) ?_ | refine AWd_nil ?_ | refine AWk_nil ?_ | refine AWd_gstep hT rfl rfl rfl rfl rfl (by intro hg; first | exact ⟨True.intro, True.intro⟩ | exact sg hg) ?_ | refine AWk_gstep hT rfl rfl rfl rfl (by intro hg; first | exact ⟨True.intro, True.intro⟩ | exact sg hg) ?_ | refine AW_seq ?_ | refine AW_region ?_ | refine AW_draw mixed (by kernel_rfl) ?_ | refine AW_block ?_ | refine AW_skip ?_ | refine AW_exit ?_ | refine AW_ret ?_)
        refine AWd_op (OpS_of_pure (indexAddr_ok hT rfl rfl rfl rfl (by omega) hel)) rfl rfl ?_
        repeat (first | refine AWd_step hT rfl rfl rfl (by first | exact True.intro | omega | exact sd) ?_ | refine AWk_step hT rfl rfl (by first | exact True.intro | omega | exact sd) ?_ | refine AWk_step0 hT rfl (by first | exact True.intro | omega | exact sd) ?_ | refine AWd_nil ?_ | refine AWk_nil ?_ | refine AWd_gstep hT rfl rfl rfl rfl rfl (by intro hg; first | exact ⟨True.intro, True.intro⟩ | exact sg hg) ?_ | refine AWk_gstep hT rfl rfl rfl rfl (by intro hg; first | exact ⟨True.intro, True.intro⟩ | exact sg hg) ?_ | refine AW_seq ?_ | refine AW_region ?_ | refine AW_draw mixed (by kernel_rfl) ?_ | refine AW_block ?_ | refine AW_skip ?_ | refine AW_exit ?_ | refine AW_ret ?_)
        refine AW_condL rfl (fun h3 => ?_) (fun h3 => ?_)
        · have h3' : x = v := by rw [h2] at h3; simpa using h3
          repeat (first | refine AWd_step hT rfl rfl rfl (by first | exact True.intro | omega | exact sd) ?_ | refine AWk_step hT rfl rfl (by first | exact True.intro | omega | exact sd) ?_ | refine AWk_step0 hT rfl (by first | exact True.intro | omega | exact sd) ?_ | refine AWd_nil ?_ | refine AWk_nil ?_ | refine AWd_gstep hT rfl rfl rfl rfl rfl (by intro hg; first | exact ⟨True.intro, True.intro⟩ | exact sg hg) ?_ | refine AWk_gstep hT rfl rfl rfl rfl (by intro hg; first | exact ⟨True.intro, True.intro⟩ | exact sg hg) ?_ | refine AW_seq ?_ | refine AW_region ?_ | refine AW_draw mixed (by kernel_rfl) ?_ | refine AW_block ?_ | refine AW_skip ?_ | refine AW_exit ?_ | refine AW_ret ?_)
          exact ret_exact rfl (.refl _) rfl rfl rfl rfl ⟨by rw [isF, if_pos h3']; rfl, rfl⟩
        · have h3' : ¬ x = v := by rw [h2] at h3; simpa using h3
          repeat (first | refine AWd_step hT rfl rfl rfl (by first | exact True.intro | omega | exact sd) ?_ | refine AWk_step hT rfl rfl (by first | exact True.intro | omega | exact sd) ?_ | refine AWk_step0 hT rfl (by first | exact True.intro | omega | exact sd) ?_ | refine AWd_nil ?_ | refine AWk_nil ?_ | refine AWd_gstep hT rfl rfl rfl rfl rfl (by intro hg; first | exact ⟨True.intro, True.intro⟩ | exact sg hg) ?_ | refine AWk_gstep hT rfl rfl rfl rfl (by intro hg; first | exact ⟨True.intro, True.intro⟩ | exact sg hg) ?_ | refine AW_seq ?_ | refine AW_region ?_ | refine AW_draw mixed (by kernel_rfl) ?_ | refine AW_block ?_ | refine AW_skip ?_ | refine AW_exit ?_ | refine AW_ret ?_)
          exact ret_exact rfl (.refl _) rfl rfl rfl rfl ⟨by rw [isF, if_neg h3']; rfl, rfl⟩
    · have hk1 : ¬ k = 1 := by simpa using hk
      rw [if_neg hk1]
      rw [validC, if_neg hk1] at hv
      have hcv : ¬ (c ≠ 0 ∨ v ≠ 0) := by intro hh; rw [if_pos hh] at hv; cases hv
      rw [if_neg hcv] at hv
      repeat (first | refine AWd_step hT rfl rfl rfl (by first | exact True.intro | omega | exact sd) ?_ | refine AWk_step hT rfl rfl (by first | exact True.intro | omega | exact sd) ?_ | refine AWk_step0 hT rfl (by first | exact True.intro | omega | exact sd) ?_ | refine AWd_nil ?_ | refine AWk_nil ?_ | refine AWd_gstep hT rfl rfl rfl rfl rfl (by intro hg; first | exact ⟨True.intro, True.intro⟩ | exact sg hg) ?_ | refine AWk_gstep hT rfl rfl rfl rfl (by intro hg; first | exact ⟨True.intro, True.intro⟩ | exact sg hg) ?_ | refine AW_seq ?_ | refine AW_region ?_ | refine AW_draw mixed (by kernel_rfl) ?_ | refine AW_block ?_ | refine AW_skip ?_ | refine AW_exit ?_ | refine AW_ret ?_)
      refine AW_condL rfl (fun hk2 => ?_) (fun hk2 => ?_)
      · have hk2' : k = 2 := by simpa using hk2
        rw [if_pos hk2'] at hv ⊢
        cases kids with
        | nil => simp at hv
        | cons x rest =>
          have hvx : validC d x = true := by
            rw [Bool.and_eq_true] at hv
            have h9 := hv.2
            simp at h9
            exact h9.1
          have hx := ih x List.mem_cons_self hvx
          have hr := forcedF_range l d x
          have hel : (encCs (x :: rest))[((0 : Int)).toNat]? = some (encC x) := by simp [encCs]
          rw [List.map_cons, notF]
          generalize forcedF l d x = f at hx hr
          obtain ⟨xk, xc, xv, xkids⟩ := x
          repeat (first | refine AWd_step hT rfl rfl rfl (by first | exact True.intro | omega | exact sd) ?_ | refine AWk_step hT rfl rfl (by first | exact True.intro | omega | exact sd) ?_ | refine AWk_step0 hT rfl (by first | exact True.intro | omega | exact sd) ?_ | refine AWd_nil ?_ | refine AWk_nil ?_ | refine AWd_gstep hT rfl rfl rfl rfl rfl (by intro hg; first | exact ⟨True.intro, True.intro⟩ | exact sg hg) ?_ | refine AWk_gstep hT rfl rfl rfl rfl (by intro hg; first | exact ⟨True.intro, True.intro⟩ | exact sg hg) ?_ | refine AW_seq ?_ | refine AW_region ?_ | refine AW_draw mixed (by kernel_rfl) ?_ | refine AW_block ?_ | refine AW_skip ?_ | refine AW_exit ?_ | refine AW_ret ?_)
          refine AWk_op (OpS_of_pure (indexAddr_ok hT rfl rfl rfl rfl (by decide) hel)) rfl ?_
          repeat (first | refine AWd_step hT rfl rfl rfl (by first | exact True.intro | omega | exact sd) ?_ | refine AWk_step hT rfl rfl (by first | exact True.intro | omega | exact sd) ?_ | refine AWk_step0 hT rfl (by first | exact True.intro | omega | exact sd) ?_ | refine AWd_nil ?_ | refine AWk_nil ?_ | refine AWd_gstep hT rfl rfl rfl rfl rfl (by intro hg; first | exact ⟨True.intro, True.intro⟩ | exact sg hg) ?_ | refine AWk_gstep hT rfl rfl rfl rfl (by intro hg; first | exact ⟨True.intro, True.intro⟩ | exact sg hg) ?_ | refine AW_seq ?_ | refine AW_region ?_ | refine AW_draw mixed (by kernel_rfl) ?_ | refine AW_block ?_ | refine AW_skip ?_ | refine AW_exit ?_ | refine AW_ret ?_)
          refine AWk_op (callS0 rfl rfl hx rfl rfl rfl) rfl ?_
          repeat (first | refine AWd_step hT rfl rfl rfl (by first | exact True.intro | omega | exact sd) ?_ | refine AWk_step hT rfl rfl (by first | exact True.intro | omega | exact sd) ?_ | refine AWk_step0 hT rfl (by first | exact True.intro | omega | exact sd) ?_ | refine AWd_nil ?_ | refine AWk_nil ?_ | refine AWd_gstep hT rfl rfl rfl rfl rfl (by intro hg; first | exact ⟨True.intro, True.intro⟩ | exact sg hg) ?_ | refine AWk_gstep hT rfl rfl rfl rfl (by intro hg; first | exact ⟨True.intro, True.intro⟩ | exact sg hg) ?_ | refine AW_seq ?_ | refine AW_region ?_ | refine AW_draw mixed (by kernel_rfl) ?_ | refine AW_block ?_ | refine AW_skip ?_ | refine AW_exit ?_ | refine AW_ret ?_)
          rcases (by omega : f = 0 ∨ f = 1 ∨ f = 2) with rfl | rfl | rfl <;> exact ret_exact rfl (.refl _) rfl rfl rfl rfl ⟨rfl, rfl⟩
      · have hk2' : ¬ k = 2 := by simpa using hk2
        rw [if_neg hk2'] at hv ⊢
        have hk34 : k = 3 ∨ k = 4 := by
          by_cases hh : k = 3 ∨ k = 4
          · exact hh
          · rw [if_neg hh] at hv; cases hv
        rw [if_pos hk34] at hv
        have hall : ∀ x, x ∈ kids → validC d x = true := by
          rw [Bool.and_eq_true] at hv
          have h9 := hv.2
          simpa using h9
        repeat (first | refine AWd_step hT rfl rfl rfl (by first | exact True.intro | omega | exact sd) ?_ | refine AWk_step hT rfl rfl (by first | exact True.intro | omega | exact sd) ?_ | refine AWk_step0 hT rfl (by first | exact True.intro | omega | exact sd) ?_ | refine AWd_nil ?_ | refine AWk_nil ?_ | refine AWd_gstep hT rfl rfl rfl rfl rfl (by intro hg; first | exact ⟨True.intro, True.intro⟩ | exact sg hg) ?_ | refine AWk_gstep hT rfl rfl rfl rfl (by intro hg; first | exact ⟨True.intro, True.intro⟩ | exact sg hg) ?_ | refine AW_seq ?_ | refine AW_region ?_ | refine AW_draw mixed (by kernel_rfl) ?_ | refine AW_block ?_ | refine AW_skip ?_ | refine AW_exit ?_ | refine AW_ret ?_)
        refine AW_cutA [(1, .d (.sl 2 (encRes l))), (2, .ptr 0 0), (6, .d (.int .i64 (if k = 4 then 1 else 2))), (7, .d (.int .i64 (if k = 4 then 2 else 1)))] [.row [.d (.int .i64 k), .d (.int .i64 c), .d (.int .i64 v), .d (.sl 4 (encCs kids))]] ?_ ?_
        · refine AW_condL rfl (fun h4 => ?_) (fun h4 => ?_)
          · have h4' : k = 4 := by simpa using h4
            repeat (first | refine AWd_step hT rfl rfl rfl (by first | exact True.intro | omega | exact sd) ?_ | refine AWk_step hT rfl rfl (by first | exact True.intro | omega | exact sd) ?_ | refine AWk_step0 hT rfl (by first | exact True.intro | omega | exact sd) ?_ | refine AWd_nil ?_ | refine AWk_nil ?_ | refine AWd_gstep hT rfl rfl rfl rfl rfl (by intro hg; first | exact ⟨True.intro, True.intro⟩ | exact sg hg) ?_ | refine AWk_gstep hT rfl rfl rfl rfl (by intro hg; first | exact ⟨True.intro, True.intro⟩ | exact sg hg) ?_ | refine AW_seq ?_ | refine AW_region ?_ | refine AW_draw mixed (by kernel_rfl) ?_ | refine AW_block ?_ | refine AW_skip ?_ | refine AW_exit ?_ | refine AW_ret ?_)
            exact ⟨⟨.refl _, .refl _, AV.le.eq (by rw [if_pos h4']; rfl), AV.le.eq (by rw [if_pos h4']; rfl), trivial⟩, HLe.refl _⟩
          · have h4' : ¬ k = 4 := by simpa using h4
            repeat (first | refine AW_exit ?_ | refine AW_skip ?_)
            exact ⟨⟨.refl _, .refl _, AV.le.eq (by rw [if_neg h4']; rfl), AV.le.eq (by rw [if_neg h4']; rfl), trivial⟩, HLe.refl _⟩
        · generalize (if k = 4 then (1 : Int) else 2) = one
          generalize (if k = 4 then (2 : Int) else 1) = all
          generalize hfin : foldF one all (kids.map fun x => forcedF l d x) = fin
          repeat (first | refine AWd_step hT rfl rfl rfl (by first | exact True.intro | omega | exact sd) ?_ | refine AWk_step hT rfl rfl (by first | exact True.intro | omega | exact sd) ?_ | refine AWk_step0 hT rfl (by first | exact True.intro | omega | exact sd) ?_ | refine AWd_nil ?_ | refine AWk_nil ?_ | refine AWd_gstep hT rfl rfl rfl rfl rfl (by intro hg; first | exact ⟨True.intro, True.intro⟩ | exact sg hg) ?_ | refine AWk_gstep hT rfl rfl rfl rfl (by intro hg; first | exact ⟨True.intro, True.intro⟩ | exact sg hg) ?_ | refine AW_seq ?_ | refine AW_region ?_ | refine AW_draw mixed (by kernel_rfl) ?_ | refine AW_block ?_ | refine AW_skip ?_ | refine AW_exit ?_ | refine AW_ret ?_)
          refine AW_loopC (ι := Nat × Int) (fun x => [(1, .d (.sl 2 (encRes l))), (2, .ptr 0 0), (6, .d (.int .i64 one)), (7, .d (.int .i64 x.2)), (44, .d (.sl 4 (encCs kids))), (45, .d (.int .i64 (encCs kids).length)), (46, .d (.int .i64 x.1))])
            (fun _ => [.row [.d (.int .i64 k), .d (.int .i64 c), .d (.int .i64 v), .d (.sl 4 (encCs kids))]])
            (fun x => x.1 ≤ kids.length ∧ foldF one x.2 ((kids.drop x.1).map fun y => forcedF l d y) = fin) (fun x => kids.length - x.1) (0, all) ⟨by simp, hfin⟩
            ⟨.refl _, .refl _, .refl _, .refl _, .refl _, .refl _, .refl _, trivial⟩ (HLe.refl _) ?_
          rintro ⟨j, al⟩ ⟨hj, hf⟩
          simp only at hj hf ⊢
          repeat (first | refine AWd_step hT rfl rfl rfl (by first | exact True.intro | omega | exact sd) ?_ | refine AWk_step hT rfl rfl (by first | exact True.intro | omega | exact sd) ?_ | refine AWk_step0 hT rfl (by first | exact True.intro | omega | exact sd) ?_ | refine AWd_nil ?_ | refine AWk_nil ?_ | refine AWd_gstep hT rfl rfl rfl rfl rfl (by intro hg; first | exact ⟨True.intro, True.intro⟩ | exact sg hg) ?_ | refine AWk_gstep hT rfl rfl rfl rfl (by intro hg; first | exact ⟨True.intro, True.intro⟩ | exact sg hg) ?_ | refine AW_seq ?_ | refine AW_region ?_ | refine AW_draw mixed (by kernel_rfl) ?_ | refine AW_block ?_ | refine AW_skip ?_ | refine AW_exit ?_ | refine AW_ret ?_)
          refine AW_condL rfl (fun h5 => ?_) (fun h5 => ?_)
          · have hlt : j < kids.length := by rw [hlen] at h5; simpa using h5
            have hel : (encCs kids)[((j : Int)).toNat]? = some (encC kids[j]) := by simp [encCs_eq, hlt]
            have hmem := List.getElem_mem hlt
            have hx := ih kids[j] hmem (hall kids[j] hmem)
            have hd : kids.drop j = kids[j] :: kids.drop (j + 1) := by simp
            have hwr : IntKind.i64.wrap ((j : Int) + 1) = ((j + 1 : Nat) : Int) := by rw [wrap_id (by omega)]; simp
            rw [hd, List.map_cons, foldF] at hf
            generalize forcedF l d kids[j] = f at hx hf
            generalize kids[j] = x at hel hx
            obtain ⟨xk, xc, xv, xkids⟩ := x
            repeat (first | refine AWd_step hT rfl rfl rfl (by first | exact True.intro | omega | exact sd) ?_ | refine AWk_step hT rfl rfl (by first | exact True.intro | omega | exact sd) ?_ | refine AWk_step0 hT rfl (by first | exact True.intro | omega | exact sd) ?_ | refine AWd_nil ?_ | refine AWk_nil ?_ | refine AWd_gstep hT rfl rfl rfl rfl rfl (by intro hg; first | exact ⟨True.intro, True.intro⟩ | exact sg hg) ?_ | refine AWk_gstep hT rfl rfl rfl rfl (by intro hg; first | exact ⟨True.intro, True.intro⟩ | exact sg hg) ?_ | refine AW_seq ?_ | refine AW_region ?_ | refine AW_draw mixed (by kernel_rfl) ?_ | refine AW_block ?_ | refine AW_skip ?_ | refine AW_exit ?_ | refine AW_ret ?_)
            refine AWk_op (OpS_of_pure (indexAddr_ok hT rfl rfl rfl rfl (by omega) hel)) rfl ?_
            repeat (first | refine AWd_step hT rfl rfl rfl (by first | exact True.intro | omega | exact sd) ?_ | refine AWk_step hT rfl rfl (by first | exact True.intro | omega | exact sd) ?_ | refine AWk_step0 hT rfl (by first | exact True.intro | omega | exact sd) ?_ | refine AWd_nil ?_ | refine AWk_nil ?_ | refine AWd_gstep hT rfl rfl rfl rfl rfl (by intro hg; first | exact ⟨True.intro, True.intro⟩ | exact sg hg) ?_ | refine AWk_gstep hT rfl rfl rfl rfl (by intro hg; first | exact ⟨True.intro, True.intro⟩ | exact sg hg) ?_ | refine AW_seq ?_ | refine AW_region ?_ | refine AW_draw mixed (by kernel_rfl) ?_ | refine AW_block ?_ | refine AW_skip ?_ | refine AW_exit ?_ | refine AW_ret ?_)
            refine AWk_op (callS0 rfl rfl hx rfl rfl rfl) rfl ?_
            repeat (first | refine AWd_step hT rfl rfl rfl (by first | exact True.intro | omega | exact sd) ?_ | refine AWk_step hT rfl rfl (by first | exact True.intro | omega | exact sd) ?_ | refine AWk_step0 hT rfl (by first | exact True.intro | omega | exact sd) ?_ | refine AWd_nil ?_ | refine AWk_nil ?_ | refine AWd_gstep hT rfl rfl rfl rfl rfl (by intro hg; first | exact ⟨True.intro, True.intro⟩ | exact sg hg) ?_ | refine AWk_gstep hT rfl rfl rfl rfl (by intro hg; first | exact ⟨True.intro, True.intro⟩ | exact sg hg) ?_ | refine AW_seq ?_ | refine AW_region ?_ | refine AW_draw mixed (by kernel_rfl) ?_ | refine AW_block ?_ | refine AW_skip ?_ | refine AW_exit ?_ | refine AW_ret ?_)
            refine AW_condL rfl (fun h6 => ?_) (fun h6 => ?_)
            · have h6' : f = one := by simpa using h6
              rw [if_pos h6'] at hf
              repeat (first | refine AWd_step hT rfl rfl rfl (by first | exact True.intro | omega | exact sd) ?_ | refine AWk_step hT rfl rfl (by first | exact True.intro | omega | exact sd) ?_ | refine AWk_step0 hT rfl (by first | exact True.intro | omega | exact sd) ?_ | refine AWd_nil ?_ | refine AWk_nil ?_ | refine AWd_gstep hT rfl rfl rfl rfl rfl (by intro hg; first | exact ⟨True.intro, True.intro⟩ | exact sg hg) ?_ | refine AWk_gstep hT rfl rfl rfl rfl (by intro hg; first | exact ⟨True.intro, True.intro⟩ | exact sg hg) ?_ | refine AW_seq ?_ | refine AW_region ?_ | refine AW_draw mixed (by kernel_rfl) ?_ | refine AW_block ?_ | refine AW_skip ?_ | refine AW_exit ?_ | refine AW_ret ?_)
              refine ret_exact rfl (.refl _) rfl rfl rfl rfl ⟨?_, rfl⟩
              show AV.d (.int .i64 one) = _
              rw [hf]
            · have h6' : ¬ f = one := by simpa using h6
              rw [if_neg h6'] at hf
              repeat (first | refine AWd_step hT rfl rfl rfl (by first | exact True.intro | omega | exact sd) ?_ | refine AWk_step hT rfl rfl (by first | exact True.intro | omega | exact sd) ?_ | refine AWk_step0 hT rfl (by first | exact True.intro | omega | exact sd) ?_ | refine AWd_nil ?_ | refine AWk_nil ?_ | refine AWd_gstep hT rfl rfl rfl rfl rfl (by intro hg; first | exact ⟨True.intro, True.intro⟩ | exact sg hg) ?_ | refine AWk_gstep hT rfl rfl rfl rfl (by intro hg; first | exact ⟨True.intro, True.intro⟩ | exact sg hg) ?_ | refine AW_seq ?_ | refine AW_region ?_ | refine AW_draw mixed (by kernel_rfl) ?_ | refine AW_block ?_ | refine AW_skip ?_ | refine AW_exit ?_ | refine AW_ret ?_)
              refine AW_condL rfl (fun h7 => ?_) (fun h7 => ?_)
              · have h7' : f = 0 := by simpa using h7
                rw [if_pos h7'] at hf
                repeat (first | refine AWd_step hT rfl rfl rfl (by first | exact True.intro | omega | exact sd) ?_ | refine AWk_step hT rfl rfl (by first | exact True.intro | omega | exact sd) ?_ | refine AWk_step0 hT rfl (by first | exact True.intro | omega | exact sd) ?_ | refine AWd_nil ?_ | refine AWk_nil ?_ | refine AWd_gstep hT rfl rfl rfl rfl rfl (by intro hg; first | exact ⟨True.intro, True.intro⟩ | exact sg hg) ?_ | refine AWk_gstep hT rfl rfl rfl rfl (by intro hg; first | exact ⟨True.intro, True.intro⟩ | exact sg hg) ?_ | refine AW_seq ?_ | refine AW_region ?_ | refine AW_draw mixed (by kernel_rfl) ?_ | refine AW_block ?_ | refine AW_skip ?_ | refine AW_exit ?_ | refine AW_ret ?_)
                exact ⟨(j + 1, 0), [.dead], ⟨by simp only; omega, hf⟩, by simp only; omega, ⟨.refl _, .refl _, .refl _, .refl _, .refl _, .refl _, AV.le.eq (by show AV.d (.int .i64 (IntKind.i64.wrap ((j : Int) + 1))) = _; rw [hwr]), trivial⟩, ⟨ObLe.refl _, trivial, trivial⟩, Env.below_mono hE (by simp), rfl, rfl⟩
              · have h7' : ¬ f = 0 := by simpa using h7
                rw [if_neg h7'] at hf
                repeat (first | refine AWd_step hT rfl rfl rfl (by first | exact True.intro | omega | exact sd) ?_ | refine AWk_step hT rfl rfl (by first | exact True.intro | omega | exact sd) ?_ | refine AWk_step0 hT rfl (by first | exact True.intro | omega | exact sd) ?_ | refine AWd_nil ?_ | refine AWk_nil ?_ | refine AWd_gstep hT rfl rfl rfl rfl rfl (by intro hg; first | exact ⟨True.intro, True.intro⟩ | exact sg hg) ?_ | refine AWk_gstep hT rfl rfl rfl rfl (by intro hg; first | exact ⟨True.intro, True.intro⟩ | exact sg hg) ?_ | refine AW_seq ?_ | refine AW_region ?_ | refine AW_draw mixed (by kernel_rfl) ?_ | refine AW_block ?_ | refine AW_skip ?_ | refine AW_exit ?_ | refine AW_ret ?_)
                exact ⟨(j + 1, al), [.dead], ⟨by simp only; omega, hf⟩, by simp only; omega, ⟨.refl _, .refl _, .refl _, .refl _, .refl _, .refl _, AV.le.eq (by show AV.d (.int .i64 (IntKind.i64.wrap ((j : Int) + 1))) = _; rw [hwr]), trivial⟩, ⟨ObLe.refl _, trivial, trivial⟩, Env.below_mono hE (by simp), rfl, rfl⟩
          · have hge : j = kids.length := by rw [hlen] at h5; simp at h5; omega
            subst hge
            rw [List.drop_length] at hf
            repeat (first | refine AWd_step hT rfl rfl rfl (by first | exact True.intro | omega | exact sd) ?_ | refine AWk_step hT rfl rfl (by first | exact True.intro | omega | exact sd) ?_ | refine AWk_step0 hT rfl (by first | exact True.intro | omega | exact sd) ?_ | refine AWd_nil ?_ | refine AWk_nil ?_ | refine AWd_gstep hT rfl rfl rfl rfl rfl (by intro hg; first | exact ⟨True.intro, True.intro⟩ | exact sg hg) ?_ | refine AWk_gstep hT rfl rfl rfl rfl (by intro hg; first | exact ⟨True.intro, True.intro⟩ | exact sg hg) ?_ | refine AW_seq ?_ | refine AW_region ?_ | refine AW_draw mixed (by kernel_rfl) ?_ | refine AW_block ?_ | refine AW_skip ?_ | refine AW_exit ?_ | refine AW_ret ?_)
            refine ret_exact rfl (.refl _) rfl rfl rfl rfl ⟨?_, rfl⟩
            show AV.d (.int .i64 al) = _
            rw [← hf]; rfl

def forcedP (c : Cond) (l : List Res) : Int := if validC 8 c = true then forcedF l 8 c else 0

set_option maxHeartbeats 4000000 in
set_option maxRecDepth 100000 in
theorem Forced_spec (c : Cond) (l : List Res) (hl : l.length ≤ 1000000) (hs : smallC c) : Spec Try.prog 17 [cAV c, .d (.sl 2 (encRes l))] [] (fun r h' => r = .d (.int .i64 (forcedP c l)) ∧ h' = []) := by
  have hv := valid_spec 8 c (by omega) hs
  have hf := forced_spec l hl 8 c
  unfold forcedP
  generalize validC 8 c = b at hv hf ⊢
  generalize forcedF l 8 c = f at hf ⊢
  obtain ⟨k, ch, v, kids⟩ := c
  refine Spec_of_body hT Try.func17 rfl rfl rfl rfl ?_
  intro E hE
  repeat (first | refine AWd_step hT rfl rfl rfl (by first | exact True.intro | omega | exact sd) ?_ | refine AWk_step hT rfl rfl (by first | exact True.intro | omega | exact sd) ?_ | refine AWk_step0 hT rfl (by first | exact True.intro | omega | exact sd) ?_ | refine AWd_nil ?_ | refine AWk_nil ?_ | refine AWd_gstep hT rfl rfl rfl rfl rfl (by intro hg; first | exact ⟨True.intro, True.intro⟩ | exact sg hg) ?_ | refine AWk_gstep hT rfl rfl rfl rfl (by intro hg; first | exact ⟨True.intro, True.intro⟩ | exact sg hg) ?_ | refine AW_seq ?_ | refine AW_region ?_ | refine AW_draw mixed (by kernel_rfl) ?_ | refine AW_block ?_ | refine AW_skip ?_ | refine AW_exit ?_ | refine AW_ret ?_)
  refine AWk_op (callS0 rfl rfl hv rfl rfl rfl) rfl ?_
  repeat (first | refine AWd_step hT rfl rfl rfl (by first | exact True.intro | omega | exact sd) ?_ | refine AWk_step hT rfl rfl (by first | exact True.intro | omega | exact sd) ?_ | refine AWk_step0 hT rfl (by first | exact True.intro | omega | exact sd) ?_ | refine AWd_nil ?_ | refine AWk_nil ?_ | refine AWd_gstep hT rfl rfl rfl rfl rfl (by intro hg; first | exact ⟨True.intro, True.intro⟩ | exact sg hg) ?_ | refine AWk_gstep hT rfl rfl rfl rfl (by intro hg; first | exact ⟨True.intro, True.intro⟩ | exact sg hg) ?_ | refine AW_seq ?_ | refine AW_region ?_ | refine AW_draw mixed (by kernel_rfl) ?_ | refine AW_block ?_ | refine AW_skip ?_ | refine AW_exit ?_ | refine AW_ret ?_)
  refine AW_condL rfl (fun h1 => ?_) (fun h1 => ?_)
  · have h1' : ¬ b = true := by simpa using h1
    rw [if_neg h1']
    repeat (first | refine AWd_step hT rfl rfl rfl (by first | exact True.intro | omega | exact sd) ?_ | refine AWk_step hT rfl rfl (by first | exact True.intro | omega | exact sd) ?_ | refine AWk_step0 hT rfl (by first | exact True.intro | omega | exact sd) ?_ | refine AWd_nil ?_ | refine AWk_nil ?_ | refine AWd_gstep hT rfl rfl rfl rfl rfl (by intro hg; first | exact ⟨True.intro, True.intro⟩ | exact sg hg) ?_ | refine AWk_gstep hT rfl rfl rfl rfl (by intro hg; first | exact ⟨True.intro, True.intro⟩ | exact sg hg) ?_ | refine AW_seq ?_ | refine AW_region ?_ | refine AW_draw mixed (by kernel_rfl) ?_ | refine AW_block ?_ | refine AW_skip ?_ | refine AW_exit ?_ | refine AW_ret ?_)
    exact ret_exact rfl (.refl _) rfl rfl rfl rfl ⟨rfl, rfl⟩
  · have h1' : b = true := by simpa using h1
    rw [if_pos h1']
    repeat (first | refine AWd_step hT rfl rfl rfl (by first | exact True.intro | omega | exact sd) ?_ | refine AWk_step hT rfl rfl (by first | exact True.intro | omega | exact sd) ?_ | refine AWk_step0 hT rfl (by first | exact True.intro | omega | exact sd) ?_ | refine AWd_nil ?_ | refine AWk_nil ?_ | refine AWd_gstep hT rfl rfl rfl rfl rfl (by intro hg; first | exact ⟨True.intro, True.intro⟩ | exact sg hg) ?_ | refine AWk_gstep hT rfl rfl rfl rfl (by intro hg; first | exact ⟨True.intro, True.intro⟩ | exact sg hg) ?_ | refine AW_seq ?_ | refine AW_region ?_ | refine AW_draw mixed (by kernel_rfl) ?_ | refine AW_block ?_ | refine AW_skip ?_ | refine AW_exit ?_ | refine AW_ret ?_)
    refine AWk_op (callS0 rfl rfl (hf h1' hs) rfl rfl rfl) rfl ?_
    repeat (first | refine AWd_step hT rfl rfl rfl (by first | exact True.intro | omega | exact sd) ?_ | refine AWk_step hT rfl rfl (by first | exact True.intro | omega | exact sd) ?_ | refine AWk_step0 hT rfl (by first | exact True.intro | omega | exact sd) ?_ | refine AWd_nil ?_ | refine AWk_nil ?_ | refine AWd_gstep hT rfl rfl rfl rfl rfl (by intro hg; first | exact ⟨True.intro, True.intro⟩ | exact sg hg) ?_ | refine AWk_gstep hT rfl rfl rfl rfl (by intro hg; first | exact ⟨True.intro, True.intro⟩ | exact sg hg) ?_ | refine AW_seq ?_ | refine AW_region ?_ | refine AW_draw mixed (by kernel_rfl) ?_ | refine AW_block ?_ | refine AW_skip ?_ | refine AW_exit ?_ | refine AW_ret ?_)
    exact ret_exact rfl (.refl _) rfl rfl rfl rfl ⟨rfl, rfl⟩
end Tdoc
/- Package policy: whether a condition holds. -/
set_option linter.unusedVariables false
set_option linter.unusedSimpArgs false
namespace Tdoc
open Go Go.Proofs

def isH (v : Int) : Option Int → Bool
  | none => v == 4
  | some x => x == v
def holdsF (l : List Res) : Nat → Cond → Bool
  | 0, _ => false
  | d + 1, .mk k c v kids =>
    if k = 1 then isH v (valOf c l) else if k = 2 then !((kids.map fun x => holdsF l d x).headD false)
    else if k = 3 then !(kids.any fun x => !holdsF l d x) else kids.any fun x => holdsF l d x

set_option maxHeartbeats 8000000 in
set_option maxRecDepth 100000 in
theorem holds_spec (l : List Res) (hl : l.length ≤ 1000000) : ∀ (d : Nat) (c : Cond), validC d c = true → smallC c → Spec Try.prog 37 [cAV c, .d (.sl 2 (encRes l))] [] (fun r h' => r = .d (.bool (holdsF l d c)) ∧ h' = [])
  | 0, c, hv, _ => by simp [validC] at hv
  | d + 1, .mk k c v kids, hv, hs => by
    have hlen := encCs_length kids
    have hs1 := hs.1
    have h1 : ∀ x, x ∈ kids → validC d x = true → Spec Try.prog 57 ([] ++ ([cAV x] ++ [.ptr 0 0])) [.row [.d (.sl 2 (encRes l))]] (fun r h' => r = .d (.bool (holdsF l d x)) ∧ h' = [.row [.d (.sl 2 (encRes l))]]) := by
      intro x hx hvx
      have ih := holds_spec l hl d x hvx (smallCs_at hs.2 x hx)
      generalize holdsF l d x = b at ih ⊢
      obtain ⟨k2, cc2, cv2, kids2⟩ := x
      refine Spec_of_body hT Try.func57 rfl rfl rfl rfl ?_
      intro E hE
      repeat (first | refine AWd_step hT rfl rfl rfl (by first | exact True.intro | omega | exact sd) ?_ | refine AWk_step hT rfl rfl (by first | exact True.intro | omega | exact sd) ?_ | refine AWk_step0 hT rfl (by first | exact True.intro | omega | exact sd) ?_ | refine AWd_nil ?_ | refine AWk_nil ?_ | refine AWd_gstep hT rfl rfl rfl rfl rfl (by intro hg; first | exact ⟨True.intro, True.intro⟩ | exact sg hg) ?_ | refine AWk_gstep hT rfl rfl rfl rfl (by intro hg; first | exact ⟨True.intro, True.intro⟩ | exact sg hg) ?_ | refine AW_seq ?_ | refine AW_region ?_ | refine AW_draw mixed (by kernel_rfl) ?_ | refine AW_block ?_ | refine AW_skip ?_ | refine AW_exit ?_ | refine AW_ret ?_)
      refine AWk_op (callS0 rfl rfl ih rfl rfl rfl) rfl ?_
      repeat (first | refine AWd_step hT rfl rfl rfl (by first | exact True.intro | omega | exact sd) ?_ | refine AWk_step hT rfl rfl (by first | exact True.intro | omega | exact sd) ?_ | refine AWk_step0 hT rfl (by first | exact True.intro | omega | exact sd) ?_ | refine AWd_nil ?_ | refine AWk_nil ?_ | refine AWd_gstep hT rfl rfl rfl rfl rfl (by intro hg; first | exact ⟨True.intro, True.intro⟩ | exact sg hg) ?_ | refine AWk_gstep hT rfl rfl rfl rfl (by intro hg; first | exact ⟨True.intro, True.intro⟩ | exact sg hg) ?_ | refine AW_seq ?_ | refine AW_region ?_ | refine AW_draw mixed (by kernel_rfl) ?_ | refine AW_block ?_ | refine AW_skip ?_ | refine AW_exit ?_ | refine AW_ret ?_)
      exact ret_exact rfl (.refl _) rfl rfl rfl rfl ⟨rfl, rfl⟩
    have h3 : ∀ x, x ∈ kids → validC d x = true → Spec Try.prog 59 ([] ++ ([cAV x] ++ [.ptr 0 0])) [.row [.fn (.func 57) [] [.ptr 1 0]], .row [.d (.sl 2 (encRes l))]] (fun r h' => r = .d (.bool (!holdsF l d x)) ∧ h' = [.row [.fn (.func 57) [] [.ptr 1 0]], .row [.d (.sl 2 (encRes l))]]) := by
      intro x hx hvx
      have ih := h1 x hx hvx
      generalize holdsF l d x = b at ih ⊢
      obtain ⟨k2, cc2, cv2, kids2⟩ := x
      refine Spec_of_body hT Try.func59 rfl rfl rfl rfl ?_
      intro E hE
      repeat (first | refine AWd_step hT rfl rfl rfl (by first | exact True.intro | omega | exact sd) ?_ | refine AWk_step hT rfl rfl (by first | exact True.intro | omega | exact sd) ?_ | refine AWk_step0 hT rfl (by first | exact True.intro | omega | exact sd) ?_ | refine AWd_nil ?_ | refine AWk_nil ?_ | refine AWd_gstep hT rfl rfl rfl rfl rfl (by intro hg; first | exact ⟨True.intro, True.intro⟩ | exact sg hg) ?_ | refine AWk_gstep hT rfl rfl rfl rfl (by intro hg; first | exact ⟨True.intro, True.intro⟩ | exact sg hg) ?_ | refine AW_seq ?_ | refine AW_region ?_ | refine AW_draw mixed (by kernel_rfl) ?_ | refine AW_block ?_ | refine AW_skip ?_ | refine AW_exit ?_ | refine AW_ret ?_)
      refine AWk_op (callS1 rfl rfl ih [1] (by decide) rfl rfl rfl rfl rfl rfl rfl) rfl ?_
      repeat (first | refine AWd_step hT rfl rfl rfl (by first | exact True.intro | omega | exact sd) ?_ | refine AWk_step hT rfl rfl (by first | exact True.intro | omega | exact sd) ?_ | refine AWk_step0 hT rfl (by first | exact True.intro | omega | exact sd) ?_ | refine AWd_nil ?_ | refine AWk_nil ?_ | refine AWd_gstep hT rfl rfl rfl rfl rfl (by intro hg; first | exact ⟨True.intro, True.intro⟩ | exact sg hg) ?_ | refine AWk_gstep hT rfl rfl rfl rfl (by intro hg; first | exact ⟨True.intro, True.intro⟩ | exact sg hg) ?_ | refine AW_seq ?_ | refine AW_region ?_ | refine AW_draw mixed (by kernel_rfl) ?_ | refine AW_block ?_ | refine AW_skip ?_ | refine AW_exit ?_ | refine AW_ret ?_)
      exact ret_exact rfl (.refl _) rfl rfl rfl rfl ⟨rfl, rfl⟩
    have hix := IndexFuncR_spec (l := l) (g := 58) (k := k) (c := c) (v := v) (kids := kids) (fun r => holds2_spec k c v kids r) (by omega)
    refine Spec_of_body hT Try.func37 rfl rfl rfl rfl ?_
    intro E hE
    rw [holdsF]
    repeat (first | refine AWd_step hT rfl rfl rfl (by first | exact True.intro | omega | exact sd) ?_ | refine AWk_step hT rfl rfl (by first | exact True.intro | omega | exact sd) ?_ | refine AWk_step0 hT rfl (by first | exact True.intro | omega | exact sd) ?_ | refine AWd_nil ?_ | refine AWk_nil ?_ | refine AWd_gstep hT rfl rfl rfl rfl rfl (by intro hg; first | exact ⟨True.intro, True.intro⟩ | exact sg hg) ?_ | refine AWk_gstep hT rfl rfl rfl rfl (by intro hg; first | exact ⟨True.intro, True.intro⟩ | exact sg hg) ?_ | refine AW_seq ?_ | refine AW_region ?_ | refine AW_draw mixed (by kernel_rfl) ?_ | refine AW_block ?_ | refine AW_skip ?_ | refine AW_exit ?_ | refine AW_ret ?_)
    refine AW_condL rfl (fun hk => ?_) (fun hk => ?_)
    · have hk' : k = 1 := by simpa using hk
      rw [if_pos hk']
      repeat (first | refine AWd_step hT rfl rfl rfl (by first | exact True.intro | omega | exact sd) ?_ | refine AWk_step hT rfl rfl (by first | exact True.intro | omega | exact sd) ?_ | refine AWk_step0 hT rfl (by first | exact True.intro | omega | exact sd) ?_ | refine AWd_nil ?_ | refine AWk_nil ?_ | refine AWd_gstep hT rfl rfl rfl rfl rfl (by intro hg; first | exact ⟨True.intro, True.intro⟩ | exact sg hg) ?_ | refine AWk_gstep hT rfl rfl rfl rfl (by intro hg; first | exact ⟨True.intro, True.intro⟩ | exact sg hg) ?_ | refine AW_seq ?_ | refine AW_region ?_ | refine AW_draw mixed (by kernel_rfl) ?_ | refine AW_block ?_ | refine AW_skip ?_ | refine AW_exit ?_ | refine AW_ret ?_)
      refine AWk_op (callS1 rfl rfl hix [0] (by decide) rfl rfl rfl rfl rfl rfl rfl) rfl ?_
      repeat (first | refine AWd_step hT rfl rfl rfl (by first | exact True.intro | omega | exact sd) ?_ | refine AWk_step hT rfl rfl (by first | exact True.intro | omega | exact sd) ?_ | refine AWk_step0 hT rfl (by first | exact True.intro | omega | exact sd) ?_ | refine AWd_nil ?_ | refine AWk_nil ?_ | refine AWd_gstep hT rfl rfl rfl rfl rfl (by intro hg; first | exact ⟨True.intro, True.intro⟩ | exact sg hg) ?_ | refine AWk_gstep hT rfl rfl rfl rfl (by intro hg; first | exact ⟨True.intro, True.intro⟩ | exact sg hg) ?_ | refine AW_seq ?_ | refine AW_region ?_ | refine AW_draw mixed (by kernel_rfl) ?_ | refine AW_block ?_ | refine AW_skip ?_ | refine AW_exit ?_ | refine AW_ret ?_)
      cases hvo : valOf c l with
      | none =>
        rw [resIdx_none hvo]
        refine AW_condL rfl (fun _ => ?_) (fun hf => by simp at hf)
        repeat (first | refine AWd_step hT rfl rfl rfl (by first | exact True.intro | omega | exact sd) ?_ | refine AWk_step hT rfl rfl (by first | exact True.intro | omega | exact sd) ?_ | refine AWk_step0 hT rfl (by first | exact True.intro | omega | exact sd) ?_ | refine AWd_nil ?_ | refine AWk_nil ?_ | refine AWd_gstep hT rfl rfl rfl rfl rfl (by intro hg; first | exact ⟨True.intro, True.intro⟩ | exact sg hg) ?_ | refine AWk_gstep hT rfl rfl rfl rfl (by intro hg; first | exact ⟨True.intro, True.intro⟩ | exact sg hg) ?_ | refine AW_seq ?_ | refine AW_region ?_ | refine AW_draw mixed (by kernel_rfl) ?_ | refine AW_block ?_ | refine AW_skip ?_ | refine AW_exit ?_ | refine AW_ret ?_)
        exact ret_exact rfl (.refl _) rfl rfl rfl rfl ⟨rfl, rfl⟩
      | some x =>
        obtain ⟨i, hi, h5, h6⟩ := resIdx_some hvo
        rw [h5]
        have hel : (encRes l)[((i : Int)).toNat]? = some [.int .i64 l[i].1, .int .i64 l[i].2] := by simp [encRes, hi, encRe]
        refine AW_condL rfl (fun hf => by simp at hf; omega) (fun _ => ?_)
        repeat (first | refine AWd_step hT rfl rfl rfl (by first | exact True.intro | omega | exact sd) ?_ | refine AWk_step hT rfl rfl (by first | exact True.intro | omega | exact sd) ?_ | refine AWk_step0 hT rfl (by first | exact True.intro | omega | exact sd) ?_ | refine AWd_nil ?_ | refine AWk_nil ?_ | refine AWd_gstep hT rfl rfl rfl rfl rfl (by intro hg; first | exact ⟨True.intro, True.intro⟩ | exact sg hg) ?_ | refine AWk_gstep hT rfl rfl rfl rfl (by intro hg; first | exact ⟨True.intro, True.intro⟩ | exact sg hg) ?_ | refine AW_seq ?_ | refine AW_region ?_ | refine AW_draw mixed (by kernel_rfl) ?_ | refine AW_block ?_ | refine AW_skip ?_ | refine AW_exit ?_ | refine AW_ret ?_)
        refine AWd_op (OpS_of_pure (indexAddr_ok hT rfl rfl rfl rfl (by omega) hel)) rfl rfl ?_
        repeat (first | refine AWd_step hT rfl rfl rfl (by first | exact True.intro | omega | exact sd) ?_ | refine AWk_step hT rfl rfl (by first | exact True.intro | omega | exact sd) ?_ | refine AWk_step0 hT rfl (by first | exact True.intro | omega | exact sd) ?_ | refine AWd_nil ?_ | refine AWk_nil ?_ | refine AWd_gstep hT rfl rfl rfl rfl rfl (by intro hg; first | exact ⟨True.intro, True.intro⟩ | exact sg hg) ?_ | refine AWk_gstep hT rfl rfl rfl rfl (by intro hg; first | exact ⟨True.intro, True.intro⟩ | exact sg hg) ?_ | refine AW_seq ?_ | refine AW_region ?_ | refine AW_draw mixed (by kernel_rfl) ?_ | refine AW_block ?_ | refine AW_skip ?_ | refine AW_exit ?_ | refine AW_ret ?_)
        refine ret_exact rfl (.refl _) rfl rfl rfl rfl ⟨?_, rfl⟩
        show AV.d (.bool (l[i].2 == v)) = _
        rw [h6]; rfl
    · have hk1 : ¬ k = 1 := by simpa using hk
      rw [if_neg hk1]
      rw [validC, if_neg hk1] at hv
      have hcv : ¬ (c ≠ 0 ∨ v ≠ 0) := by intro hh; rw [if_pos hh] at hv; cases hv
      rw [if_neg hcv] at hv
      repeat (first | refine AWd_step hT rfl rfl rfl (by first | exact True.intro | omega | exact sd) ?_ | refine AWk_step hT rfl rfl (by first | exact True.intro | omega | exact sd) ?_ | refine AWk_step0 hT rfl (by first | exact True.intro | omega | exact sd) ?_ | refine AWd_nil ?_ | refine AWk_nil ?_ | refine AWd_gstep hT rfl rfl rfl rfl rfl (by intro hg; first | exact ⟨True.intro, True.intro⟩ | exact sg hg) ?_ | refine AWk_gstep hT rfl rfl rfl rfl (by intro hg; first | exact ⟨True.intro, True.intro⟩ | exact sg hg) ?_ | refine AW_seq ?_ | refine AW_region ?_ | refine AW_draw mixed (by kernel_rfl) ?_ | refine AW_block ?_ | refine AW_skip ?_ | refine AW_exit ?_ | refine AW_ret ?_)
      refine AW_condL rfl (fun hk2 => ?_) (fun hk2 => ?_)
      · have hk2' : k = 2 := by simpa using hk2
        rw [if_pos hk2'] at hv ⊢
        cases kids with
        | nil => simp at hv
        | cons x rest =>
          have hvx : validC d x = true := by
            rw [Bool.and_eq_true] at hv
            have h9 := hv.2
            simp at h9
            exact h9.1
          have hx := h1 x List.mem_cons_self hvx
          have hel : (encCs (x :: rest))[((0 : Int)).toNat]? = some (encC x) := by simp [encCs]
          rw [List.map_cons, List.headD_cons]
          generalize holdsF l d x = f at hx
          obtain ⟨xk, xc, xv, xkids⟩ := x
          repeat (first | refine AWd_step hT rfl rfl rfl (by first | exact True.intro | omega | exact sd) ?_ | refine AWk_step hT rfl rfl (by first | exact True.intro | omega | exact sd) ?_ | refine AWk_step0 hT rfl (by first | exact True.intro | omega | exact sd) ?_ | refine AWd_nil ?_ | refine AWk_nil ?_ | refine AWd_gstep hT rfl rfl rfl rfl rfl (by intro hg; first | exact ⟨True.intro, True.intro⟩ | exact sg hg) ?_ | refine AWk_gstep hT rfl rfl rfl rfl (by intro hg; first | exact ⟨True.intro, True.intro⟩ | exact sg hg) ?_ | refine AW_seq ?_ | refine AW_region ?_ | refine AW_draw mixed (by kernel_rfl) ?_ | refine AW_block ?_ | refine AW_skip ?_ | refine AW_exit ?_ | refine AW_ret ?_)
          refine AWd_op (OpS_of_pure (indexAddr_ok hT rfl rfl rfl rfl (by decide) hel)) rfl rfl ?_
          repeat (first | refine AWd_step hT rfl rfl rfl (by first | exact True.intro | omega | exact sd) ?_ | refine AWk_step hT rfl rfl (by first | exact True.intro | omega | exact sd) ?_ | refine AWk_step0 hT rfl (by first | exact True.intro | omega | exact sd) ?_ | refine AWd_nil ?_ | refine AWk_nil ?_ | refine AWd_gstep hT rfl rfl rfl rfl rfl (by intro hg; first | exact ⟨True.intro, True.intro⟩ | exact sg hg) ?_ | refine AWk_gstep hT rfl rfl rfl rfl (by intro hg; first | exact ⟨True.intro, True.intro⟩ | exact sg hg) ?_ | refine AW_seq ?_ | refine AW_region ?_ | refine AW_draw mixed (by kernel_rfl) ?_ | refine AW_block ?_ | refine AW_skip ?_ | refine AW_exit ?_ | refine AW_ret ?_)
          refine AWd_op (callS1 rfl rfl hx [1] (by decide) rfl rfl rfl rfl rfl rfl rfl) rfl rfl ?_
          repeat (first | refine AWd_step hT rfl rfl rfl (by first | exact True.intro | omega | exact sd) ?_ | refine AWk_step hT rfl rfl (by first | exact True.intro | omega | exact sd) ?_ | refine AWk_step0 hT rfl (by first | exact True.intro | omega | exact sd) ?_ | refine AWd_nil ?_ | refine AWk_nil ?_ | refine AWd_gstep hT rfl rfl rfl rfl rfl (by intro hg; first | exact ⟨True.intro, True.intro⟩ | exact sg hg) ?_ | refine AWk_gstep hT rfl rfl rfl rfl (by intro hg; first | exact ⟨True.intro, True.intro⟩ | exact sg hg) ?_ | refine AW_seq ?_ | refine AW_region ?_ | refine AW_draw mixed (by kernel_rfl) ?_ | refine AW_block ?_ | refine AW_skip ?_ | refine AW_exit ?_ | refine AW_ret ?_)
          exact ret_exact rfl (.refl _) rfl rfl rfl rfl ⟨rfl, rfl⟩
      · have hk2' : ¬ k = 2 := by simpa using hk2
        rw [if_neg hk2'] at hv ⊢
        have hk34 : k = 3 ∨ k = 4 := by
          by_cases hh : k = 3 ∨ k = 4
          · exact hh
          · rw [if_neg hh] at hv; cases hv
        rw [if_pos hk34] at hv
        have hall : ∀ x, x ∈ kids → validC d x = true := by
          rw [Bool.and_eq_true] at hv
          have h9 := hv.2
          simpa using h9
        have c3 := ContainsFuncC_spec (p := fun x => !holdsF l d x) (kids := kids) (fun x hx => h3 x hx (hall x hx)) rfl rfl rfl hs.1
        have c1 := ContainsFuncC_spec (p := fun x => holdsF l d x) (kids := kids) (fun x hx => h1 x hx (hall x hx)) rfl rfl rfl hs.1
        generalize (kids.any fun x => !holdsF l d x) = b3 at c3 ⊢
        generalize (kids.any fun x => holdsF l d x) = b1 at c1 ⊢
        repeat (first | refine AWd_step hT rfl rfl rfl (by first | exact True.intro | omega | exact sd) ?_ | refine AWk_step hT rfl rfl (by first | exact True.intro | omega | exact sd) ?_ | refine AWk_step0 hT rfl (by first | exact True.intro | omega | exact sd) ?_ | refine AWd_nil ?_ | refine AWk_nil ?_ | refine AWd_gstep hT rfl rfl rfl rfl rfl (by intro hg; first | exact ⟨True.intro, True.intro⟩ | exact sg hg) ?_ | refine AWk_gstep hT rfl rfl rfl rfl (by intro hg; first | exact ⟨True.intro, True.intro⟩ | exact sg hg) ?_ | refine AW_seq ?_ | refine AW_region ?_ | refine AW_draw mixed (by kernel_rfl) ?_ | refine AW_block ?_ | refine AW_skip ?_ | refine AW_exit ?_ | refine AW_ret ?_)
        refine AW_condL rfl (fun hk3 => ?_) (fun hk3 => ?_)
        · have hk3' : k = 3 := by simpa using hk3
          rw [if_pos hk3']
          repeat (first | refine AWd_step hT rfl rfl rfl (by first | exact True.intro | omega | exact sd) ?_ | refine AWk_step hT rfl rfl (by first | exact True.intro | omega | exact sd) ?_ | refine AWk_step0 hT rfl (by first | exact True.intro | omega | exact sd) ?_ | refine AWd_nil ?_ | refine AWk_nil ?_ | refine AWd_gstep hT rfl rfl rfl rfl rfl (by intro hg; first | exact ⟨True.intro, True.intro⟩ | exact sg hg) ?_ | refine AWk_gstep hT rfl rfl rfl rfl (by intro hg; first | exact ⟨True.intro, True.intro⟩ | exact sg hg) ?_ | refine AW_seq ?_ | refine AW_region ?_ | refine AW_draw mixed (by kernel_rfl) ?_ | refine AW_block ?_ | refine AW_skip ?_ | refine AW_exit ?_ | refine AW_ret ?_)
          refine AWk_op (callS rfl rfl c3 [2, 1] (by decide) rfl rfl rfl rfl rfl rfl) rfl ?_
          repeat (first | refine AWd_step hT rfl rfl rfl (by first | exact True.intro | omega | exact sd) ?_ | refine AWk_step hT rfl rfl (by first | exact True.intro | omega | exact sd) ?_ | refine AWk_step0 hT rfl (by first | exact True.intro | omega | exact sd) ?_ | refine AWd_nil ?_ | refine AWk_nil ?_ | refine AWd_gstep hT rfl rfl rfl rfl rfl (by intro hg; first | exact ⟨True.intro, True.intro⟩ | exact sg hg) ?_ | refine AWk_gstep hT rfl rfl rfl rfl (by intro hg; first | exact ⟨True.intro, True.intro⟩ | exact sg hg) ?_ | refine AW_seq ?_ | refine AW_region ?_ | refine AW_draw mixed (by kernel_rfl) ?_ | refine AW_block ?_ | refine AW_skip ?_ | refine AW_exit ?_ | refine AW_ret ?_)
          exact ret_exact rfl (.refl _) rfl rfl rfl rfl ⟨rfl, rfl⟩
        · have hk3' : ¬ k = 3 := by simpa using hk3
          rw [if_neg hk3']
          repeat (first | refine AWd_step hT rfl rfl rfl (by first | exact True.intro | omega | exact sd) ?_ | refine AWk_step hT rfl rfl (by first | exact True.intro | omega | exact sd) ?_ | refine AWk_step0 hT rfl (by first | exact True.intro | omega | exact sd) ?_ | refine AWd_nil ?_ | refine AWk_nil ?_ | refine AWd_gstep hT rfl rfl rfl rfl rfl (by intro hg; first | exact ⟨True.intro, True.intro⟩ | exact sg hg) ?_ | refine AWk_gstep hT rfl rfl rfl rfl (by intro hg; first | exact ⟨True.intro, True.intro⟩ | exact sg hg) ?_ | refine AW_seq ?_ | refine AW_region ?_ | refine AW_draw mixed (by kernel_rfl) ?_ | refine AW_block ?_ | refine AW_skip ?_ | refine AW_exit ?_ | refine AW_ret ?_)
          refine AWk_op (callS1 rfl rfl c1 [1] (by decide) rfl rfl rfl rfl rfl rfl rfl) rfl ?_
          repeat (first | refine AWd_step hT rfl rfl rfl (by first | exact True.intro | omega | exact sd) ?_ | refine AWk_step hT rfl rfl (by first | exact True.intro | omega | exact sd) ?_ | refine AWk_step0 hT rfl (by first | exact True.intro | omega | exact sd) ?_ | refine AWd_nil ?_ | refine AWk_nil ?_ | refine AWd_gstep hT rfl rfl rfl rfl rfl (by intro hg; first | exact ⟨True.intro, True.intro⟩ | exact sg hg) ?_ | refine AWk_gstep hT rfl rfl rfl rfl (by intro hg; first | exact ⟨True.intro, True.intro⟩ | exact sg hg) ?_ | refine AW_seq ?_ | refine AW_region ?_ | refine AW_draw mixed (by kernel_rfl) ?_ | refine AW_block ?_ | refine AW_skip ?_ | refine AW_exit ?_ | refine AW_ret ?_)
          exact ret_exact rfl (.refl _) rfl rfl rfl rfl ⟨rfl, rfl⟩

def holdsP (c : Cond) (l : List Res) : Bool := validC 8 c && holdsF l 8 c
end Tdoc
/- Package policy: Holds; and the sanity check of the laws. -/
set_option linter.unusedVariables false
set_option linter.unusedSimpArgs false
namespace Tdoc
open Go Go.Proofs

set_option maxHeartbeats 4000000 in
set_option maxRecDepth 100000 in
theorem Holds_spec (c : Cond) (l : List Res) (hl : l.length ≤ 1000000) (hs : smallC c) : Spec Try.prog 18 [cAV c, .d (.sl 2 (encRes l))] [] (fun r h' => r = .d (.bool (holdsP c l)) ∧ h' = []) := by
  have hv := valid_spec 8 c (by omega) hs
  have hf := holds_spec l hl 8 c
  unfold holdsP
  generalize validC 8 c = b at hv hf ⊢
  generalize holdsF l 8 c = f at hf ⊢
  obtain ⟨k, ch, v, kids⟩ := c
  refine Spec_of_body hT Try.func18 rfl rfl rfl rfl ?_
  intro E hE
  repeat (first | refine AWd_step hT rfl rfl rfl (by first | exact True.intro | omega | exact sd) ?_ | refine AWk_step hT rfl rfl (by first | exact True.intro | omega | exact sd) ?_ | refine AWk_step0 hT rfl (by first | exact True.intro | omega | exact sd) ?_ | refine AWd_nil ?_ | refine AWk_nil ?_ | refine AWd_gstep hT rfl rfl rfl rfl rfl (by intro hg; first | exact ⟨True.intro, True.intro⟩ | exact sg hg) ?_ | refine AWk_gstep hT rfl rfl rfl rfl (by intro hg; first | exact ⟨True.intro, True.intro⟩ | exact sg hg) ?_ | refine AW_seq ?_ | refine AW_region ?_ | refine AW_draw mixed (by kernel_rfl) ?_ | refine AW_block ?_ | refine AW_skip ?_ | refine AW_exit ?_ | refine AW_ret ?_)
  refine AWk_op (callS0 rfl rfl hv rfl rfl rfl) rfl ?_
  repeat (first | refine AWd_step hT rfl rfl rfl (by first | exact True.intro | omega | exact sd) ?_ | refine AWk_step hT rfl rfl (by first | exact True.intro | omega | exact sd) ?_ | refine AWk_step0 hT rfl (by first | exact True.intro | omega | exact sd) ?_ | refine AWd_nil ?_ | refine AWk_nil ?_ | refine AWd_gstep hT rfl rfl rfl rfl rfl (by intro hg; first | exact ⟨True.intro, True.intro⟩ | exact sg hg) ?_ | refine AWk_gstep hT rfl rfl rfl rfl (by intro hg; first | exact ⟨True.intro, True.intro⟩ | exact sg hg) ?_ | refine AW_seq ?_ | refine AW_region ?_ | refine AW_draw mixed (by kernel_rfl) ?_ | refine AW_block ?_ | refine AW_skip ?_ | refine AW_exit ?_ | refine AW_ret ?_)
  refine AWk_gop rfl rfl rfl (fun hg => ⟨by first | exact True.intro | exact ⟨hg, True.intro⟩ | exact ⟨hg, hg, True.intro⟩, callS0 rfl rfl (hf (by simpa [gval] using hg) hs) rfl rfl rfl⟩) ?_
  repeat (first | refine AWd_step hT rfl rfl rfl (by first | exact True.intro | omega | exact sd) ?_ | refine AWk_step hT rfl rfl (by first | exact True.intro | omega | exact sd) ?_ | refine AWk_step0 hT rfl (by first | exact True.intro | omega | exact sd) ?_ | refine AWd_nil ?_ | refine AWk_nil ?_ | refine AWd_gstep hT rfl rfl rfl rfl rfl (by intro hg; first | exact ⟨True.intro, True.intro⟩ | exact sg hg) ?_ | refine AWk_gstep hT rfl rfl rfl rfl (by intro hg; first | exact ⟨True.intro, True.intro⟩ | exact sg hg) ?_ | refine AW_seq ?_ | refine AW_region ?_ | refine AW_draw mixed (by kernel_rfl) ?_ | refine AW_block ?_ | refine AW_skip ?_ | refine AW_exit ?_ | refine AW_ret ?_)
  exact ret_exact rfl (.refl _) rfl rfl rfl rfl ⟨rfl, rfl⟩

def aw1 : List UInt8 := [97, 99, 99, 101, 112, 116, 32, 105, 102, 32, 115, 105, 103, 110, 97, 116, 117, 114, 101, 32, 97, 110, 100, 32, 40, 99, 104, 105, 112, 32, 111, 114, 32, 97, 99, 116, 105, 118, 101, 41, 59, 32, 114, 101, 102, 101, 114, 59]
def aw2 : List UInt8 := [97, 99, 99, 101, 112, 116, 32, 105, 102, 32, 59]
def awC : Cond := .mk 3 0 0 [.mk 1 2 1 [], .mk 4 0 0 [.mk 1 12 1 [], .mk 1 13 1 []]]
def awP : List Rule := [.mk 1 false awC, .mk 2 true (.mk 0 0 0 [])]

theorem aw1_parse : parseP aw1 = (awP, 0, 0) := by kernel_rfl
theorem aw2_parse : parseP aw2 = ([], 10, 71) := by kernel_rfl
theorem aw_valid : validPol awP = 0 := by kernel_rfl
theorem aw_holds : holdsP awC [(2, 1), (12, 1)] = true := by kernel_rfl
theorem aw_forced1 : forcedP awC [(2, 1), (12, 1)] = 1 := by kernel_rfl
theorem aw_forced0 : forcedP awC [(2, 1)] = 0 := by kernel_rfl
theorem aw_small : smallC awC := by simp [awC, smallC, smallCs]

set_option maxHeartbeats 4000000 in
set_option maxRecDepth 100000 in
theorem awake_spec : Spec Try.prog 7 [] [] (fun r h' => r = .d (.bool true) ∧ h' = []) := by
  have p1 := Parse_spec aw1 (by decide)
  have p2 := Parse_spec aw2 (by decide)
  rw [aw1_parse] at p1
  rw [aw2_parse] at p2
  have hv := Valid_spec awP (by intro r hr; simp [awP] at hr; rcases hr with rfl | rfl <;> simp [condR, awC, smallC, smallCs])
  rw [aw_valid] at hv
  have hh := Holds_spec awC [(2, 1), (12, 1)] (by decide) aw_small
  rw [aw_holds] at hh
  have f1 := Forced_spec awC [(2, 1), (12, 1)] (by decide) aw_small
  rw [aw_forced1] at f1
  have f0 := Forced_spec awC [(2, 1)] (by decide) aw_small
  rw [aw_forced0] at f0
  have hel : (encRs awP)[((0 : Int)).toNat]? = some [.int .i64 1, .bool false, .int .i64 3, .int .i64 0, .int .i64 0, .sl 4 (encCs [.mk 1 2 1 [], .mk 4 0 0 [.mk 1 12 1 [], .mk 1 13 1 []]])] := rfl
  refine Spec_of_body hT Try.func7 rfl rfl rfl rfl ?_
  intro E hE
  repeat (first | refine AWd_step hT rfl rfl rfl (by first | exact True.intro | omega | exact sd) ?_ | refine AWk_step hT rfl rfl (by first | exact True.intro | omega | exact sd) ?_ | refine AWk_step0 hT rfl (by first | exact True.intro | omega | exact sd) ?_ | refine AWd_nil ?_ | refine AWk_nil ?_ | refine AWd_gstep hT rfl rfl rfl rfl rfl (by intro hg; first | exact ⟨True.intro, True.intro⟩ | exact sg hg) ?_ | refine AWk_gstep hT rfl rfl rfl rfl (by intro hg; first | exact ⟨True.intro, True.intro⟩ | exact sg hg) ?_ | refine AW_seq ?_ | refine AW_region ?_ | refine AW_block ?_ | refine AW_skip ?_ | refine AW_exit ?_ | refine AW_ret ?_)
  refine AWk_op (callS0 rfl rfl p1 rfl rfl rfl) rfl ?_
  repeat (first | refine AWd_step hT rfl rfl rfl (by first | exact True.intro | omega | exact sd) ?_ | refine AWk_step hT rfl rfl (by first | exact True.intro | omega | exact sd) ?_ | refine AWk_step0 hT rfl (by first | exact True.intro | omega | exact sd) ?_ | refine AWd_nil ?_ | refine AWk_nil ?_ | refine AWd_gstep hT rfl rfl rfl rfl rfl (by intro hg; first | exact ⟨True.intro, True.intro⟩ | exact sg hg) ?_ | refine AWk_gstep hT rfl rfl rfl rfl (by intro hg; first | exact ⟨True.intro, True.intro⟩ | exact sg hg) ?_ | refine AW_seq ?_ | refine AW_region ?_ | refine AW_block ?_ | refine AW_skip ?_ | refine AW_exit ?_ | refine AW_ret ?_)
  refine AWk_op (callS0 rfl rfl p2 rfl rfl rfl) rfl ?_
  repeat (first | refine AWd_step hT rfl rfl rfl (by first | exact True.intro | omega | exact sd) ?_ | refine AWk_step hT rfl rfl (by first | exact True.intro | omega | exact sd) ?_ | refine AWk_step0 hT rfl (by first | exact True.intro | omega | exact sd) ?_ | refine AWd_nil ?_ | refine AWk_nil ?_ | refine AWd_gstep hT rfl rfl rfl rfl rfl (by intro hg; first | exact ⟨True.intro, True.intro⟩ | exact sg hg) ?_ | refine AWk_gstep hT rfl rfl rfl rfl (by intro hg; first | exact ⟨True.intro, True.intro⟩ | exact sg hg) ?_ | refine AW_seq ?_ | refine AW_region ?_ | refine AW_block ?_ | refine AW_skip ?_ | refine AW_exit ?_ | refine AW_ret ?_)
  refine AW_subL (l := [(1, .ptr 0 0), (3, .d (.int .i64 0)), (5, .d (.int .i64 10)), (6, .d (.int .i64 71)), (7, .d (.sl 2 (encRes [(2, 1), (12, 1)])))]) (h' := [.row [.d (.sl 6 (encRs awP))], .dead]) ⟨.refl _, .refl _, .refl _, .refl _, AV.le.dat, trivial⟩ ⟨ObLe.refl _, trivial, trivial⟩ ?_
  repeat (first | refine AWd_step hT rfl rfl rfl (by first | exact True.intro | omega | exact sd) ?_ | refine AWk_step hT rfl rfl (by first | exact True.intro | omega | exact sd) ?_ | refine AWk_step0 hT rfl (by first | exact True.intro | omega | exact sd) ?_ | refine AWd_nil ?_ | refine AWk_nil ?_ | refine AWd_gstep hT rfl rfl rfl rfl rfl (by intro hg; first | exact ⟨True.intro, True.intro⟩ | exact sg hg) ?_ | refine AWk_gstep hT rfl rfl rfl rfl (by intro hg; first | exact ⟨True.intro, True.intro⟩ | exact sg hg) ?_ | refine AW_seq ?_ | refine AW_region ?_ | refine AW_draw mixed (by kernel_rfl) ?_ | refine AW_block ?_ | refine AW_skip ?_ | refine AW_exit ?_ | refine AW_ret ?_)
  refine AWd_gop rfl rfl rfl rfl (fun hg => ⟨by first | exact True.intro | exact ⟨hg, True.intro⟩ | exact ⟨hg, hg, True.intro⟩, callS0 rfl rfl hv rfl rfl rfl⟩) ?_
  repeat (first | refine AWd_step hT rfl rfl rfl (by first | exact True.intro | omega | exact sd) ?_ | refine AWk_step hT rfl rfl (by first | exact True.intro | omega | exact sd) ?_ | refine AWk_step0 hT rfl (by first | exact True.intro | omega | exact sd) ?_ | refine AWd_nil ?_ | refine AWk_nil ?_ | refine AWd_gstep hT rfl rfl rfl rfl rfl (by intro hg; first | exact ⟨True.intro, True.intro⟩ | exact sg hg) ?_ | refine AWk_gstep hT rfl rfl rfl rfl (by intro hg; first | exact ⟨True.intro, True.intro⟩ | exact sg hg) ?_ | refine AW_seq ?_ | refine AW_region ?_ | refine AW_draw mixed (by kernel_rfl) ?_ | refine AW_block ?_ | refine AW_skip ?_ | refine AW_exit ?_ | refine AW_ret ?_)
  refine AWd_gop rfl rfl rfl rfl (fun hg => ⟨by first | exact True.intro | exact ⟨hg, True.intro⟩ | exact ⟨hg, hg, True.intro⟩, OpS_of_pure (indexAddr_ok hT rfl rfl rfl rfl (by decide) hel)⟩) ?_
  repeat (first | refine AWd_step hT rfl rfl rfl (by first | exact True.intro | omega | exact sd) ?_ | refine AWk_step hT rfl rfl (by first | exact True.intro | omega | exact sd) ?_ | refine AWk_step0 hT rfl (by first | exact True.intro | omega | exact sd) ?_ | refine AWd_nil ?_ | refine AWk_nil ?_ | refine AWd_gstep hT rfl rfl rfl rfl rfl (by intro hg; first | exact ⟨True.intro, True.intro⟩ | exact sg hg) ?_ | refine AWk_gstep hT rfl rfl rfl rfl (by intro hg; first | exact ⟨True.intro, True.intro⟩ | exact sg hg) ?_ | refine AW_seq ?_ | refine AW_region ?_ | refine AW_draw mixed (by kernel_rfl) ?_ | refine AW_block ?_ | refine AW_skip ?_ | refine AW_exit ?_ | refine AW_ret ?_)
  refine AWd_gop rfl rfl rfl rfl (fun hg => ⟨by first | exact True.intro | exact ⟨hg, True.intro⟩ | exact ⟨hg, hg, True.intro⟩, callS0 rfl rfl hh rfl rfl rfl⟩) ?_
  repeat (first | refine AWd_step hT rfl rfl rfl (by first | exact True.intro | omega | exact sd) ?_ | refine AWk_step hT rfl rfl (by first | exact True.intro | omega | exact sd) ?_ | refine AWk_step0 hT rfl (by first | exact True.intro | omega | exact sd) ?_ | refine AWd_nil ?_ | refine AWk_nil ?_ | refine AWd_gstep hT rfl rfl rfl rfl rfl (by intro hg; first | exact ⟨True.intro, True.intro⟩ | exact sg hg) ?_ | refine AWk_gstep hT rfl rfl rfl rfl (by intro hg; first | exact ⟨True.intro, True.intro⟩ | exact sg hg) ?_ | refine AW_seq ?_ | refine AW_region ?_ | refine AW_draw mixed (by kernel_rfl) ?_ | refine AW_block ?_ | refine AW_skip ?_ | refine AW_exit ?_ | refine AW_ret ?_)
  refine AWd_gop rfl rfl rfl rfl (fun hg => ⟨by first | exact True.intro | exact ⟨hg, True.intro⟩ | exact ⟨hg, hg, True.intro⟩, OpS_of_pure (indexAddr_ok hT rfl rfl rfl rfl (by decide) hel)⟩) ?_
  repeat (first | refine AWd_step hT rfl rfl rfl (by first | exact True.intro | omega | exact sd) ?_ | refine AWk_step hT rfl rfl (by first | exact True.intro | omega | exact sd) ?_ | refine AWk_step0 hT rfl (by first | exact True.intro | omega | exact sd) ?_ | refine AWd_nil ?_ | refine AWk_nil ?_ | refine AWd_gstep hT rfl rfl rfl rfl rfl (by intro hg; first | exact ⟨True.intro, True.intro⟩ | exact sg hg) ?_ | refine AWk_gstep hT rfl rfl rfl rfl (by intro hg; first | exact ⟨True.intro, True.intro⟩ | exact sg hg) ?_ | refine AW_seq ?_ | refine AW_region ?_ | refine AW_draw mixed (by kernel_rfl) ?_ | refine AW_block ?_ | refine AW_skip ?_ | refine AW_exit ?_ | refine AW_ret ?_)
  refine AWd_gop rfl rfl rfl rfl (fun hg => ⟨by first | exact True.intro | exact ⟨hg, True.intro⟩ | exact ⟨hg, hg, True.intro⟩, callS0 rfl rfl f1 rfl rfl rfl⟩) ?_
  repeat (first | refine AWd_step hT rfl rfl rfl (by first | exact True.intro | omega | exact sd) ?_ | refine AWk_step hT rfl rfl (by first | exact True.intro | omega | exact sd) ?_ | refine AWk_step0 hT rfl (by first | exact True.intro | omega | exact sd) ?_ | refine AWd_nil ?_ | refine AWk_nil ?_ | refine AWd_gstep hT rfl rfl rfl rfl rfl (by intro hg; first | exact ⟨True.intro, True.intro⟩ | exact sg hg) ?_ | refine AWk_gstep hT rfl rfl rfl rfl (by intro hg; first | exact ⟨True.intro, True.intro⟩ | exact sg hg) ?_ | refine AW_seq ?_ | refine AW_region ?_ | refine AW_draw mixed (by kernel_rfl) ?_ | refine AW_block ?_ | refine AW_skip ?_ | refine AW_exit ?_ | refine AW_ret ?_)
  refine AWd_gop rfl rfl rfl rfl (fun hg => ⟨by first | exact True.intro | exact ⟨hg, True.intro⟩ | exact ⟨hg, hg, True.intro⟩, OpS_of_pure (indexAddr_ok hT rfl rfl rfl rfl (by decide) hel)⟩) ?_
  repeat (first | refine AWd_step hT rfl rfl rfl (by first | exact True.intro | omega | exact sd) ?_ | refine AWk_step hT rfl rfl (by first | exact True.intro | omega | exact sd) ?_ | refine AWk_step0 hT rfl (by first | exact True.intro | omega | exact sd) ?_ | refine AWd_nil ?_ | refine AWk_nil ?_ | refine AWd_gstep hT rfl rfl rfl rfl rfl (by intro hg; first | exact ⟨True.intro, True.intro⟩ | exact sg hg) ?_ | refine AWk_gstep hT rfl rfl rfl rfl (by intro hg; first | exact ⟨True.intro, True.intro⟩ | exact sg hg) ?_ | refine AW_seq ?_ | refine AW_region ?_ | refine AW_draw mixed (by kernel_rfl) ?_ | refine AW_block ?_ | refine AW_skip ?_ | refine AW_exit ?_ | refine AW_ret ?_)
  refine AWd_gstep hT rfl rfl rfl rfl rfl (fun hg => ⟨by first | exact True.intro | exact ⟨hg, True.intro⟩ | exact ⟨hg, hg, True.intro⟩, by first | decide | (simp [encRes]; done) | (simp [encRes]; omega)⟩) ?_
  repeat (first | refine AWd_step hT rfl rfl rfl (by first | exact True.intro | omega | exact sd) ?_ | refine AWk_step hT rfl rfl (by first | exact True.intro | omega | exact sd) ?_ | refine AWk_step0 hT rfl (by first | exact True.intro | omega | exact sd) ?_ | refine AWd_nil ?_ | refine AWk_nil ?_ | refine AWd_gstep hT rfl rfl rfl rfl rfl (by intro hg; first | exact ⟨True.intro, True.intro⟩ | exact sg hg) ?_ | refine AWk_gstep hT rfl rfl rfl rfl (by intro hg; first | exact ⟨True.intro, True.intro⟩ | exact sg hg) ?_ | refine AW_seq ?_ | refine AW_region ?_ | refine AW_draw mixed (by kernel_rfl) ?_ | refine AW_block ?_ | refine AW_skip ?_ | refine AW_exit ?_ | refine AW_ret ?_)
  refine AWd_gop rfl rfl rfl rfl (fun hg => ⟨by first | exact True.intro | exact ⟨hg, True.intro⟩ | exact ⟨hg, hg, True.intro⟩, callS0 rfl rfl f0 rfl rfl rfl⟩) ?_
  repeat (first | refine AWd_step hT rfl rfl rfl (by first | exact True.intro | omega | exact sd) ?_ | refine AWk_step hT rfl rfl (by first | exact True.intro | omega | exact sd) ?_ | refine AWk_step0 hT rfl (by first | exact True.intro | omega | exact sd) ?_ | refine AWd_nil ?_ | refine AWk_nil ?_ | refine AWd_gstep hT rfl rfl rfl rfl rfl (by intro hg; first | exact ⟨True.intro, True.intro⟩ | exact sg hg) ?_ | refine AWk_gstep hT rfl rfl rfl rfl (by intro hg; first | exact ⟨True.intro, True.intro⟩ | exact sg hg) ?_ | refine AW_seq ?_ | refine AW_region ?_ | refine AW_draw mixed (by kernel_rfl) ?_ | refine AW_block ?_ | refine AW_skip ?_ | refine AW_exit ?_ | refine AW_ret ?_)
  exact ret_exact rfl (.refl _) rfl rfl rfl rfl ⟨rfl, rfl⟩
end Tdoc
/- The law PolicyParses, given that the two parsers agree. -/
set_option linter.unusedVariables false
set_option linter.unusedSimpArgs false
namespace Tdoc
open Go Go.Proofs

set_option maxHeartbeats 4000000 in
set_option maxRecDepth 100000 in
theorem law_spec (text : List UInt8) (heq : text.length ≤ 1500 → parseP text = parseR text) (hsm : text.length ≤ 1500 → (parseR text).1.length ≤ 1000000 ∧ ∀ r, r ∈ (parseR text).1 → smallC (condR r)) :
    Spec Try.prog 3 [.d (.str text)] [] (fun r h' => r = .d (.bool true) ∧ h' = []) := by
  refine Spec_of_body hT Try.func3 rfl rfl rfl rfl ?_
  intro E hE
  repeat (first | refine AWd_step hT rfl rfl rfl (by first | exact True.intro | omega | exact sd) ?_ | refine AWk_step hT rfl rfl (by first | exact True.intro | omega | exact sd) ?_ | refine AWk_step0 hT rfl (by first | exact True.intro | omega | exact sd) ?_ | refine AWd_nil ?_ | refine AWk_nil ?_ | refine AWd_gstep hT rfl rfl rfl rfl rfl (by intro hg; first | exact ⟨True.intro, True.intro⟩ | exact sg hg) ?_ | refine AWk_gstep hT rfl rfl rfl rfl (by intro hg; first | exact ⟨True.intro, True.intro⟩ | exact sg hg) ?_ | refine AW_seq ?_ | refine AW_region ?_ | refine AW_draw mixed (by kernel_rfl) ?_ | refine AW_block ?_ | refine AW_skip ?_ | refine AW_exit ?_ | refine AW_ret ?_)
  refine AW_condL rfl (fun h1 => ?_) (fun h1 => ?_)
  · repeat (first | refine AWd_step hT rfl rfl rfl (by first | exact True.intro | omega | exact sd) ?_ | refine AWk_step hT rfl rfl (by first | exact True.intro | omega | exact sd) ?_ | refine AWk_step0 hT rfl (by first | exact True.intro | omega | exact sd) ?_ | refine AWd_nil ?_ | refine AWk_nil ?_ | refine AWd_gstep hT rfl rfl rfl rfl rfl (by intro hg; first | exact ⟨True.intro, True.intro⟩ | exact sg hg) ?_ | refine AWk_gstep hT rfl rfl rfl rfl (by intro hg; first | exact ⟨True.intro, True.intro⟩ | exact sg hg) ?_ | refine AW_seq ?_ | refine AW_region ?_ | refine AW_draw mixed (by kernel_rfl) ?_ | refine AW_block ?_ | refine AW_skip ?_ | refine AW_exit ?_ | refine AW_ret ?_)
    refine AWk_op (callS0 rfl rfl awake_spec rfl rfl rfl) rfl ?_
    repeat (first | refine AWd_step hT rfl rfl rfl (by first | exact True.intro | omega | exact sd) ?_ | refine AWk_step hT rfl rfl (by first | exact True.intro | omega | exact sd) ?_ | refine AWk_step0 hT rfl (by first | exact True.intro | omega | exact sd) ?_ | refine AWd_nil ?_ | refine AWk_nil ?_ | refine AWd_gstep hT rfl rfl rfl rfl rfl (by intro hg; first | exact ⟨True.intro, True.intro⟩ | exact sg hg) ?_ | refine AWk_gstep hT rfl rfl rfl rfl (by intro hg; first | exact ⟨True.intro, True.intro⟩ | exact sg hg) ?_ | refine AW_seq ?_ | refine AW_region ?_ | refine AW_draw mixed (by kernel_rfl) ?_ | refine AW_block ?_ | refine AW_skip ?_ | refine AW_exit ?_ | refine AW_ret ?_)
    exact ret_exact rfl (.refl _) rfl rfl rfl rfl ⟨rfl, rfl⟩
  · have h1' : text.length ≤ 1500 := by simp at h1; omega
    have p1 := Parse_spec text (by omega)
    have p2 := ParseR_spec text (by omega)
    rw [heq h1'] at p1
    obtain ⟨s1, s2⟩ := hsm h1'
    generalize parseR text = q at p1 p2 s1 s2
    obtain ⟨l, i, e⟩ := q
    have hsame := Same_spec l s1 s2
    simp only at p1 p2
    repeat (first | refine AWd_step hT rfl rfl rfl (by first | exact True.intro | omega | exact sd) ?_ | refine AWk_step hT rfl rfl (by first | exact True.intro | omega | exact sd) ?_ | refine AWk_step0 hT rfl (by first | exact True.intro | omega | exact sd) ?_ | refine AWd_nil ?_ | refine AWk_nil ?_ | refine AWd_gstep hT rfl rfl rfl rfl rfl (by intro hg; first | exact ⟨True.intro, True.intro⟩ | exact sg hg) ?_ | refine AWk_gstep hT rfl rfl rfl rfl (by intro hg; first | exact ⟨True.intro, True.intro⟩ | exact sg hg) ?_ | refine AW_seq ?_ | refine AW_region ?_ | refine AW_draw mixed (by kernel_rfl) ?_ | refine AW_block ?_ | refine AW_skip ?_ | refine AW_exit ?_ | refine AW_ret ?_)
    refine AWk_op (callS0 rfl rfl p1 rfl rfl rfl) rfl ?_
    repeat (first | refine AWd_step hT rfl rfl rfl (by first | exact True.intro | omega | exact sd) ?_ | refine AWk_step hT rfl rfl (by first | exact True.intro | omega | exact sd) ?_ | refine AWk_step0 hT rfl (by first | exact True.intro | omega | exact sd) ?_ | refine AWd_nil ?_ | refine AWk_nil ?_ | refine AWd_gstep hT rfl rfl rfl rfl rfl (by intro hg; first | exact ⟨True.intro, True.intro⟩ | exact sg hg) ?_ | refine AWk_gstep hT rfl rfl rfl rfl (by intro hg; first | exact ⟨True.intro, True.intro⟩ | exact sg hg) ?_ | refine AW_seq ?_ | refine AW_region ?_ | refine AW_draw mixed (by kernel_rfl) ?_ | refine AW_block ?_ | refine AW_skip ?_ | refine AW_exit ?_ | refine AW_ret ?_)
    refine AWk_op (callS0 rfl rfl p2 rfl rfl rfl) rfl ?_
    repeat (first | refine AWd_step hT rfl rfl rfl (by first | exact True.intro | omega | exact sd) ?_ | refine AWk_step hT rfl rfl (by first | exact True.intro | omega | exact sd) ?_ | refine AWk_step0 hT rfl (by first | exact True.intro | omega | exact sd) ?_ | refine AWd_nil ?_ | refine AWk_nil ?_ | refine AWd_gstep hT rfl rfl rfl rfl rfl (by intro hg; first | exact ⟨True.intro, True.intro⟩ | exact sg hg) ?_ | refine AWk_gstep hT rfl rfl rfl rfl (by intro hg; first | exact ⟨True.intro, True.intro⟩ | exact sg hg) ?_ | refine AW_seq ?_ | refine AW_region ?_ | refine AW_draw mixed (by kernel_rfl) ?_ | refine AW_block ?_ | refine AW_skip ?_ | refine AW_exit ?_ | refine AW_ret ?_)
    refine AWk_op (callS0 rfl rfl awake_spec rfl rfl rfl) rfl ?_
    repeat (first | refine AWd_step hT rfl rfl rfl (by first | exact True.intro | omega | exact sd) ?_ | refine AWk_step hT rfl rfl (by first | exact True.intro | omega | exact sd) ?_ | refine AWk_step0 hT rfl (by first | exact True.intro | omega | exact sd) ?_ | refine AWd_nil ?_ | refine AWk_nil ?_ | refine AWd_gstep hT rfl rfl rfl rfl rfl (by intro hg; first | exact ⟨True.intro, True.intro⟩ | exact sg hg) ?_ | refine AWk_gstep hT rfl rfl rfl rfl (by intro hg; first | exact ⟨True.intro, True.intro⟩ | exact sg hg) ?_ | refine AW_seq ?_ | refine AW_region ?_ | refine AW_draw mixed (by kernel_rfl) ?_ | refine AW_block ?_ | refine AW_skip ?_ | refine AW_exit ?_ | refine AW_ret ?_)
    refine AWk_gop rfl rfl rfl (fun hg => ⟨by first | exact True.intro | exact ⟨hg, True.intro⟩ | exact ⟨hg, hg, True.intro⟩, callS0 rfl rfl hsame rfl rfl rfl⟩) ?_
    repeat (first | refine AWd_step hT rfl rfl rfl (by first | exact True.intro | omega | exact sd) ?_ | refine AWk_step hT rfl rfl (by first | exact True.intro | omega | exact sd) ?_ | refine AWk_step0 hT rfl (by first | exact True.intro | omega | exact sd) ?_ | refine AWd_nil ?_ | refine AWk_nil ?_ | refine AWd_gstep hT rfl rfl rfl rfl rfl (by intro hg; first | exact ⟨True.intro, True.intro⟩ | exact sg hg) ?_ | refine AWk_gstep hT rfl rfl rfl rfl (by intro hg; first | exact ⟨True.intro, True.intro⟩ | exact sg hg) ?_ | refine AW_seq ?_ | refine AW_region ?_ | refine AW_draw mixed (by kernel_rfl) ?_ | refine AW_block ?_ | refine AW_skip ?_ | refine AW_exit ?_ | refine AW_ret ?_)
    refine ret_exact rfl (.refl _) rfl rfl rfl rfl ⟨congrArg (fun b => AV.d (.bool b)) ?_, rfl⟩
    simp
end Tdoc
/- The words of a text, from a place on. No program is named here. -/
set_option linter.unusedVariables false
set_option linter.unusedSimpArgs false
namespace Tdoc
open Go Go.Proofs

theorem skipS_true : ∀ r : List UInt8, skipS true r = cmt r + skipS false (r.drop (cmt r))
  | [] => by simp [skipS, cmt]
  | c :: r => by
    have ih := skipS_true r
    by_cases h : c = 10
    · simp [skipS, cmt, h]
    · simp only [skipS, cmt, if_neg h, List.drop_succ_cons, ih]; omega

theorem wordsR_out (text : List UInt8) : ∀ (m p : Nat) (out : List Wd), wordsR text m p out = (out ++ (wordsR text m p []).1, (wordsR text m p []).2)
  | 0, p, out => by simp [wordsR]
  | m + 1, p, out => by
    rw [wordsR, wordsR]
    cases text.drop p with
    | nil => simp
    | cons c r =>
      simp only
      split
      · exact wordsR_out text m _ out
      · split
        · exact wordsR_out text m _ out
        · split
          · rw [wordsR_out text m _ (out ++ _), wordsR_out text m _ ([] ++ _)]; simp
          · split
            · rw [wordsR_out text m _ (out ++ _), wordsR_out text m _ ([] ++ _)]; simp
            · simp

theorem wordsR_fuel (text : List UInt8) : ∀ (m m' p : Nat) (out : List Wd), text.length - p < m → text.length - p < m' → wordsR text m p out = wordsR text m' p out
  | 0, _, _, _, h, _ => by omega
  | _, 0, _, _, _, h => by omega
  | m + 1, m' + 1, p, out, h1, h2 => by
    rw [wordsR, wordsR]
    cases hd : text.drop p with
    | nil => rfl
    | cons c r =>
      have hlen : (c :: r).length = text.length - p := by rw [← hd]; simp
      simp only [List.length_cons] at hlen
      simp only
      split
      · exact wordsR_fuel text m m' _ _ (by omega) (by omega)
      · split
        · rename_i hc
          have : 0 < cmt (c :: r) := by rw [cmt, if_neg (by rw [hc]; decide)]; omega
          exact wordsR_fuel text m m' _ _ (by omega) (by omega)
        · split
          · exact wordsR_fuel text m m' _ _ (by omega) (by omega)
          · split
            · rename_i hc
              have : 0 < lets (c :: r) := by rw [lets, if_pos hc]; omega
              exact wordsR_fuel text m m' _ _ (by omega) (by omega)
            · rfl

/-- The words from a place on, and where the first byte is that begins no word. -/
def wf (text : List UInt8) (p : Nat) : List Wd × Int := wordsR text (text.length + 1) p []

theorem wf_eq (text : List UInt8) (p : Nat) : wf text p = match text.drop p with
    | [] => ([], -1)
    | c :: r => if c = 32 ∨ c = 10 then wf text (p + 1)
      else if c = 35 then wf text (p + cmt (c :: r))
      else if (c = 40 ∨ c = 41) ∨ c = 59 then (([c], p) :: (wf text (p + 1)).1, (wf text (p + 1)).2)
      else if isLow c = true then (((c :: r).take (lets (c :: r)), p) :: (wf text (p + lets (c :: r))).1, (wf text (p + lets (c :: r))).2)
      else ([], p) := by
  unfold wf
  rw [wordsR]
  cases hd : text.drop p with
  | nil => rfl
  | cons c r =>
    have hlen : (c :: r).length = text.length - p := by rw [← hd]; simp
    simp only [List.length_cons] at hlen
    simp only
    split
    · exact wordsR_fuel text _ _ _ _ (by omega) (by omega)
    · split
      · rename_i hc
        have : 0 < cmt (c :: r) := by rw [cmt, if_neg (by rw [hc]; decide)]; omega
        exact wordsR_fuel text _ _ _ _ (by omega) (by omega)
      · split
        · rw [wordsR_out, wordsR_fuel text text.length (text.length + 1) (p + 1) [] (by omega) (by omega)]; rfl
        · split
          · rename_i hc
            have : 0 < lets (c :: r) := by rw [lets, if_pos hc]; omega
            rw [wordsR_out, wordsR_fuel text text.length (text.length + 1) _ [] (by omega) (by omega)]; rfl
          · rfl

theorem wf_skip (text : List UInt8) : ∀ (m p : Nat), text.length - p < m → wf text p = wf text (p + skipS false (text.drop p))
  | 0, p, h => by omega
  | m + 1, p, h => by
    cases hd : text.drop p with
    | nil => rfl
    | cons c r =>
      have hlen : (c :: r).length = text.length - p := by rw [← hd]; simp
      simp only [List.length_cons] at hlen
      have hr : text.drop (p + 1) = r := by rw [← List.drop_drop, hd]; rfl
      by_cases h1 : c = 32 ∨ c = 10
      · rw [wf_eq, hd]
        simp only [if_pos h1, skipS]
        rw [wf_skip text m (p + 1) (by omega), hr]
        congr 1; omega
      · by_cases h2 : c = 35
        · rw [wf_eq, hd]
          simp only [if_neg h1, if_pos h2, skipS]
          have hcm : cmt (c :: r) = cmt r + 1 := by rw [cmt, if_neg (by rw [h2]; decide)]
          rw [hcm, wf_skip text m (p + (cmt r + 1)) (by omega), skipS_true]
          have : text.drop (p + (cmt r + 1)) = r.drop (cmt r) := by rw [← hr, List.drop_drop]; congr 1; omega
          rw [this]
          congr 1; omega
        · simp [skipS, h1, h2]
end Tdoc
/- The program's next word is the reference's. -/
set_option linter.unusedVariables false
set_option linter.unusedSimpArgs false
namespace Tdoc
open Go Go.Proofs

theorem skip_head : ∀ (b : Bool) (l : List UInt8) (c : UInt8) (r : List UInt8), l.drop (skipS b l) = c :: r → c ≠ 32 ∧ c ≠ 10 ∧ c ≠ 35
  | _, [], c, r, h => by simp at h
  | false, x :: l, c, r, h => by
    by_cases h1 : x = 32 ∨ x = 10
    · simp only [skipS, if_pos h1, List.drop_succ_cons] at h
      exact skip_head false l c r h
    · by_cases h2 : x = 35
      · simp only [skipS, if_neg h1, if_pos h2, List.drop_succ_cons] at h
        exact skip_head true l c r h
      · simp only [skipS, if_neg h1, if_neg h2, List.drop_zero] at h
        obtain ⟨rfl, rfl⟩ := List.cons.inj h
        exact ⟨fun hh => h1 (.inl hh), fun hh => h1 (.inr hh), h2⟩
  | true, x :: l, c, r, h => by
    by_cases h1 : x = 10
    · simp only [skipS, if_pos h1, List.drop_succ_cons] at h
      exact skip_head false l c r h
    · simp only [skipS, if_neg h1, List.drop_succ_cons] at h
      exact skip_head true l c r h

/-- A text that is no word. -/
def Junk (nt : List UInt8) : Prop := nt = [] ∨ ∃ c, nt = [c] ∧ isLow c = false ∧ c ≠ 40 ∧ c ≠ 41 ∧ c ≠ 59

theorem next_words (text : List UInt8) (s : PS) (h : s.a ≤ text.length) :
    (wf text s.a = (((nextP text s).nt, (nextP text s).na) :: (wf text (nextP text s).a).1, (wf text (nextP text s).a).2) ∧ (nextP text s).nt ≠ []) ∨
    ((wf text s.a).1 = [] ∧ (nextP text s).na = endR text (wf text s.a).2 ∧ Junk (nextP text s).nt ∧ (((nextP text s).nt = [] ∧ (wf text s.a).2 = -1) ∨ ((nextP text s).nt ≠ [] ∧ 0 ≤ (wf text s.a).2))) := by
  have hle := skipS_le false (text.drop s.a)
  simp only [List.length_drop] at hle
  have hhead := skip_head false (text.drop s.a)
  rw [wf_skip text (text.length + 1) s.a (by omega)]
  simp only [nextP]
  rw [List.drop_drop] at hhead
  have hq : s.a + skipS false (text.drop s.a) ≤ text.length := by omega
  generalize s.a + skipS false (text.drop s.a) = q at hq hhead ⊢
  rw [wf_eq text q]
  cases hd : text.drop q with
  | nil =>
    right
    have : q = text.length := by have := congrArg List.length hd; simp at this; omega
    exact ⟨by simp, by simp [endR, this], .inl (by simp), .inl ⟨by simp, rfl⟩⟩
  | cons c r =>
    obtain ⟨h1, h2, h3⟩ := hhead c r hd
    have h12 : ¬ (c = 32 ∨ c = 10) := by rintro (hh | hh) <;> contradiction
    simp only [if_neg h12, if_neg h3]
    by_cases h4 : (c = 40 ∨ c = 41) ∨ c = 59
    · left
      have hlow : ¬ isLow c = true := by rcases h4 with (rfl | rfl) | rfl <;> decide
      have hw : wlen (c :: r) = 1 := by simp [wlen, lets, hlow]
      simp only [if_pos h4, hw]
      simp
    · by_cases h5 : isLow c = true
      · left
        have hl : lets (c :: r) = lets r + 1 := by rw [lets, if_pos h5]
        have hw : wlen (c :: r) = lets (c :: r) := by simp [wlen, hl]
        simp only [if_neg h4, if_pos h5, hw]
        simp [hl]
      · right
        have hw : wlen (c :: r) = 1 := by simp [wlen, lets, h5]
        simp only [if_neg h4, if_neg h5, hw]
        refine ⟨by simp, by simp [endR], .inr ⟨c, by simp, by simpa using h5, fun hh => h4 (.inl (.inl hh)), fun hh => h4 (.inl (.inr hh)), fun hh => h4 (.inr hh)⟩, .inr ⟨by simp, by simp⟩⟩
end Tdoc
/- The two parsers' states side by side. -/
set_option linter.unusedVariables false
set_option linter.unusedSimpArgs false
namespace Tdoc
open Go Go.Proofs

def NowW (text : List UInt8) (ws : List Wd) (bro : Int) (s : PS) (i : Nat) : Prop := ws[i]? = some (s.nt, s.na) ∧ s.nt ≠ [] ∧ wf text s.a = (ws.drop (i + 1), bro)
def NowE (text : List UInt8) (ws : List Wd) (bro : Int) (s : PS) (i : Nat) : Prop := i = ws.length ∧ s.na = endR text bro ∧ Junk s.nt ∧ ((s.nt = [] ∧ bro = -1) ∨ (s.nt ≠ [] ∧ 0 ≤ bro))

structure Right (text : List UInt8) (ws : List Wd) (bro : Int) (s : PS) (rs : RS) : Prop where
  wr : s.wr = false
  bad : rs.bad < 0
  inv : Inv text s
  en : rs.en = endR text bro
  now : NowW text ws bro s rs.i ∨ NowE text ws bro s rs.i

def Wrong (s : PS) (rs : RS) : Prop := s.wr = true ∧ 0 ≤ rs.bad ∧ rs.bad = s.na

theorem Right.next {text : List UInt8} {ws : List Wd} {bro : Int} {s : PS} {rs : RS} (h : Right text ws bro s rs) (hn : NowW text ws bro s rs.i) : Right text ws bro (nextP text s) rs.inc := by
  obtain ⟨h1, h2, h3⟩ := hn
  obtain ⟨k1, k2, k3⟩ := h.inv.next
  have hlt := (List.getElem?_eq_some_iff.1 h1).1
  refine ⟨k3.trans h.wr, h.bad, k1, h.en, ?_⟩
  have hw := next_words text s h.inv.le
  rw [h3] at hw
  rcases hw with ⟨q1, q2⟩ | ⟨q1, q2, q3, q4⟩
  · left
    have e1 : ws.drop (rs.i + 1) = ((nextP text s).nt, (nextP text s).na) :: (wf text (nextP text s).a).1 := congrArg Prod.fst q1
    have e2 : bro = (wf text (nextP text s).a).2 := congrArg Prod.snd q1
    refine ⟨?_, q2, ?_⟩
    · show ws[rs.i + 1]? = _
      have := congrArg (fun l => l[0]?) e1
      simpa using this
    · have := congrArg List.tail e1
      rw [List.tail_drop] at this
      show wf text (nextP text s).a = (ws.drop (rs.i + 1 + 1), bro)
      rw [this, e2]; rfl
  · right
    refine ⟨?_, q2, q3, q4⟩
    show rs.i + 1 = ws.length
    have := congrArg List.length q1
    simp at this; omega
end Tdoc
/- What each parser does at one word. -/
set_option linter.unusedVariables false
set_option linter.unusedSimpArgs false
namespace Tdoc
open Go Go.Proofs

theorem NowW.peek {text : List UInt8} {ws : List Wd} {bro : Int} {s : PS} {rs : RS} (h : NowW text ws bro s rs.i) : peekR ws rs = s.nt := by
  unfold peekR; rw [h.1]
theorem NowE.peek {text : List UInt8} {ws : List Wd} {bro : Int} {s : PS} {rs : RS} (h : NowE text ws bro s rs.i) : peekR ws rs = [] := by
  unfold peekR; rw [List.getElem?_eq_none (by rw [h.1]; omega)]

/-- A text that a word can be. -/
def Real (w : List UInt8) : Prop := w ≠ [] ∧ ∀ c, w = [c] → isLow c = true ∨ c = 40 ∨ c = 41 ∨ c = 59

theorem Junk.ne {nt w : List UInt8} (h : Junk nt) (hw : Real w) : nt ≠ w := by
  rintro rfl
  rcases h with h | ⟨c, h1, h2, h3, h4, h5⟩
  · exact hw.1 h
  · rcases hw.2 c h1 with q | q | q | q
    · rw [h2] at q; cases q
    · exact h3 q
    · exact h4 q
    · exact h5 q

theorem Right.peek {text : List UInt8} {ws : List Wd} {bro : Int} {s : PS} {rs : RS} (h : Right text ws bro s rs) {w : List UInt8} (hw : Real w) : (s.nt = w ↔ peekR ws rs = w) := by
  rcases h.now with hn | hn
  · rw [hn.peek]
  · rw [hn.peek]
    exact ⟨fun hh => absurd hh (hn.2.2.1.ne hw), fun hh => absurd hh.symm hw.1⟩

/-- The next word stands there, if it is a word at all. -/
theorem Right.word {text : List UInt8} {ws : List Wd} {bro : Int} {s : PS} {rs : RS} (h : Right text ws bro s rs) {w : List UInt8} (hw : Real w) (he : peekR ws rs = w) : NowW text ws bro s rs.i := by
  rcases h.now with hn | hn
  · exact hn
  · rw [hn.peek] at he; exact absurd he.symm hw.1

theorem Right.fail {text : List UInt8} {ws : List Wd} {bro : Int} {s : PS} {rs : RS} (h : Right text ws bro s rs) (hb : bro = -1 ∨ 0 ≤ bro) : Wrong { s with wr := true } (failR ws rs) := by
  unfold failR
  rw [if_pos h.bad]
  rcases h.now with hn | hn
  · refine ⟨rfl, ?_, ?_⟩ <;> simp only [hn.1] <;> simp
  · have he : ws[rs.i]? = none := List.getElem?_eq_none (by rw [hn.1]; omega)
    have h2 := hn.2.1
    refine ⟨rfl, ?_, ?_⟩
    · simp only [he, h.en]; rw [← h2]; omega
    · simp only [he, h.en]; exact h2.symm
end Tdoc
/- What each parser does at one word: is, one, need. -/
set_option linter.unusedVariables false
set_option linter.unusedSimpArgs false
namespace Tdoc
open Go Go.Proofs

section
variable {text : List UInt8} {ws : List Wd} {bro : Int} {s : PS} {rs : RS}

theorem Right.isT (h : Right text ws bro s rs) {w : List UInt8} (hw : Real w) (he : peekR ws rs = w) : isP text s w = (true, nextP text s) ∧ Right text ws bro (nextP text s) rs.inc := by
  have hn := h.word hw he
  refine ⟨?_, h.next hn⟩
  unfold isP
  rw [if_neg (by rw [h.wr]; simp; exact (h.peek hw).2 he)]
theorem Right.isF (h : Right text ws bro s rs) {w : List UInt8} (hw : Real w) (he : peekR ws rs ≠ w) : isP text s w = (false, s) := by
  unfold isP
  rw [if_pos (.inr fun hh => he ((h.peek hw).1 hh))]

theorem Right.idx (h : Right text ws bro s rs) {l : List (List UInt8)} (hl : ∀ w, w ∈ l → Real w) : sIdx l s.nt = sIdx l (peekR ws rs) := by
  rcases h.now with hn | hn
  · rw [hn.peek]
  · rw [hn.peek]
    have e1 : sIdx l s.nt = -1 := sIdx_none fun j hj hh => hn.2.2.1.ne (hl _ (List.getElem_mem hj)) hh.symm
    have e2 : sIdx l [] = -1 := sIdx_none fun j hj hh => (hl _ (List.getElem_mem hj)).1 hh
    rw [e1, e2]

theorem Wrong.inc (h : Wrong s rs) : Wrong s rs.inc := h
theorem Wrong.needP (h : Wrong s rs) (text : List UInt8) (ws : List Wd) (w : List UInt8) : Wrong (needP text s w) (takeR ws rs w) := by
  have e1 : Tdoc.needP text s w = s := by
    unfold Tdoc.needP; rw [isP_wr h.1]
    cases s; simp only [Wrong] at h; simp [h.1]
  have e2 : (takeR ws rs w).bad = rs.bad := by unfold takeR; rw [if_neg (by have := h.2.1; omega)]
  rw [e1]
  exact ⟨h.1, by rw [e2]; exact h.2.1, by rw [e2]; exact h.2.2⟩

theorem Right.needP (h : Right text ws bro s rs) (hb : bro = -1 ∨ 0 ≤ bro) {w : List UInt8} (hw : Real w) : Right text ws bro (needP text s w) (takeR ws rs w) ∨ Wrong (needP text s w) (takeR ws rs w) := by
  by_cases he : peekR ws rs = w
  · left
    obtain ⟨h1, h2⟩ := h.isT hw he
    have e2 : takeR ws rs w = rs.inc := by unfold takeR; rw [if_neg (fun hh => hh.2 he)]; rfl
    unfold Tdoc.needP
    rw [h1, e2]
    exact h2
  · right
    have e2 : takeR ws rs w = { failR ws rs with i := rs.i + 1 } := by unfold takeR; rw [if_pos ⟨h.bad, he⟩]
    unfold Tdoc.needP
    rw [h.isF hw he, e2]
    exact h.fail hb
end
end Tdoc
/- Series of conditions in both parsers. -/
set_option linter.unusedVariables false
set_option linter.unusedSimpArgs false
namespace Tdoc
open Go Go.Proofs

structure PRel (text : List UInt8) (ws : List Wd) (bro : Int) (n n' : Nat) (part : PS → Cond × PS) (partR : RS → Cond × RS) : Prop where
  right : ∀ s rs, Right text ws bro s rs → text.length - s.na < n → ws.length - rs.i < n' → (Right text ws bro (part s).2 (partR rs).2 ∧ (part s).1 = (partR rs).1) ∨ Wrong (part s).2 (partR rs).2
  wrong : ∀ s rs, Wrong s rs → Wrong (part s).2 (partR rs).2

theorem loopP_wrong {text : List UInt8} {kind : Int} {w : List UInt8} {part : PS → Cond × PS} {s : PS} (h : s.wr = true) : ∀ (m : Nat) (l : List Cond), loopP text kind w part m l s = (l, s)
  | 0, l => rfl
  | m + 1, l => by rw [loopP, isP_wr h]; rfl
theorem loopR_wrong {ws : List Wd} {w : List UInt8} {part : RS → Cond × RS} {s : RS} (h : 0 ≤ s.bad) : ∀ (m : Nat) (l : List Cond), loopR ws w part m l s = (l, s)
  | 0, l => rfl
  | m + 1, l => by rw [loopR, if_neg (by omega)]

theorem NowW.lt {text : List UInt8} {ws : List Wd} {bro : Int} {s : PS} {i : Nat} (h : NowW text ws bro s i) : i < ws.length := (List.getElem?_eq_some_iff.1 h.1).1

theorem loop_rel {text : List UInt8} {ws : List Wd} {bro : Int} {n n' : Nat} {part : PS → Cond × PS} {partR : RS → Cond × RS} (hr : PRel text ws bro n n' part partR) (hp : PartOk text n part) (hpR : POk ws n' partR) (kind : Int) {w : List UInt8} (hw : Real w) :
    ∀ (m m' : Nat) (l : List Cond) (s : PS) (rs : RS), Right text ws bro s rs → text.length - s.na < n → text.length - s.na < m → ws.length - rs.i < n' + 1 → ws.length - rs.i < m' →
      (Right text ws bro (loopP text kind w part m (flatL kind l) s).2 (loopR ws w partR m' l rs).2 ∧ (loopP text kind w part m (flatL kind l) s).1 = flatL kind (loopR ws w partR m' l rs).1 ∧ l.length + (if peekR ws rs = w then 1 else 0) ≤ (loopR ws w partR m' l rs).1.length)
      ∨ Wrong (loopP text kind w part m (flatL kind l) s).2 (loopR ws w partR m' l rs).2
  | 0, m', l, s, rs, h, h1, h2, h3, h4 => by omega
  | m + 1, 0, l, s, rs, h, h1, h2, h3, h4 => by omega
  | m + 1, m' + 1, l, s, rs, h, h1, h2, h3, h4 => by
    rw [loopP, loopR]
    by_cases he : peekR ws rs = w
    · have hn := (h.word hw he).lt
      have hb := h.bad
      obtain ⟨e1, k1⟩ := h.isT hw he
      have ht := isP_true (w := w) h.inv (by rw [e1])
      rw [e1] at ht
      obtain ⟨t1, t2, t3⟩ := ht
      simp only at t1 t2 t3
      have hwl : 0 < w.length := List.length_pos_iff.2 hw.1
      have hi : rs.inc.i = rs.i + 1 := rfl
      obtain ⟨q1, q2, q3⟩ := hp.inv _ t1 (by omega)
      obtain ⟨r1, r2, r3⟩ := hpR.inv rs.inc (by omega) (by omega)
      rw [e1, if_pos rfl, if_pos ⟨hb, he⟩]
      rcases hr.right _ _ k1 (by omega) (by omega) with ⟨v1, v2⟩ | v1
      · rw [v2, ← flatL_one, ← flatL_append]
        rcases loop_rel hr hp hpR kind hw m m' (l ++ [(partR rs.inc).1]) _ _ v1 (by omega) (by omega) (by omega) (by omega) with ⟨x1, x2, x3⟩ | x1
        · left
          refine ⟨x1, x2, ?_⟩
          rw [if_pos he]
          rw [List.length_append, List.length_singleton] at x3
          omega
        · right; exact x1
      · right
        rw [loopP_wrong v1.1, loopR_wrong v1.2.1]
        exact v1
    · rw [h.isF hw he, if_neg (by simp), if_neg (fun hh => he hh.2)]
      left
      exact ⟨h, rfl, by rw [if_neg he]; simp⟩
end Tdoc
/- Conditions in both parsers. -/
set_option linter.unusedVariables false
set_option linter.unusedSimpArgs false
namespace Tdoc
open Go Go.Proofs

theorem Right.le {text : List UInt8} {ws : List Wd} {bro : Int} {s : PS} {rs : RS} (h : Right text ws bro s rs) : rs.i ≤ ws.length := by
  rcases h.now with hn | hn
  · have := hn.lt; omega
  · rw [hn.1]; omega

theorem series_rel {text : List UInt8} {ws : List Wd} {bro : Int} {n n' : Nat} {part : PS → Cond × PS} {partR : RS → Cond × RS} (hr : PRel text ws bro n n' part partR) (hp : PartOk text n part) (hpR : POk ws n' partR) (kind : Int) {w : List UInt8} (hw : Real w) :
    PRel text ws bro n n' (seriesP text kind w part) (seriesR ws kind w partR) := by
  refine ⟨fun s rs h h1 h2 => ?_, fun s rs h => ?_⟩
  · obtain ⟨q1, q2, q3⟩ := hp.inv s h.inv h1
    obtain ⟨r1, r2, r3⟩ := hpR.inv rs h.le h2
    unfold seriesP seriesR
    rcases hr.right s rs h h1 h2 with ⟨v1, v2⟩ | v1
    · by_cases he : peekR ws (partR rs).2 = w
      · have hnt := (v1.peek hw).2 he
        rw [if_neg (by rw [v1.wr]; simp; exact hnt)]
        have hl := loop_rel hr hp hpR kind hw (text.length + 1) (ws.length + 1) [(partR rs).1] _ _ v1 (by omega) (by omega) (by omega) (by omega)
        rw [flatL_one, ← v2] at hl
        rcases hl with ⟨x1, x2, x3⟩ | x1
        · left
          rw [← v2]
          refine ⟨x1, ?_⟩
          simp only
          rw [x2]
          rw [if_pos he] at x3
          generalize (loopR ws w partR (ws.length + 1) [(part s).1] (partR rs).2).1 = L at x3
          unfold joinR
          split
          · simp at x3
          · rfl
        · right; rw [← v2]; exact x1
      · left
        rw [if_pos (.inl fun hh => he ((v1.peek hw).1 hh))]
        have e1 : loopR ws w partR (ws.length + 1) [(partR rs).1] (partR rs).2 = ([(partR rs).1], (partR rs).2) := by
          rw [loopR, if_neg (fun hh => he hh.2)]
        rw [e1]
        exact ⟨v1, v2⟩
    · right
      rw [if_pos (.inr v1.1), loopR_wrong v1.2.1]
      exact v1
  · have v1 := hr.wrong s rs h
    unfold seriesP seriesR
    rw [if_pos (.inr v1.1), loopR_wrong v1.2.1]
    exact v1

theorem real_not : Real notW := ⟨by decide, fun c h => by simp [notW] at h⟩
theorem real_and : Real andW := ⟨by decide, fun c h => by simp [andW] at h⟩
theorem real_or : Real orW := ⟨by decide, fun c h => by simp [orW] at h⟩
theorem real_is : Real isW := ⟨by decide, fun c h => by simp [isW] at h⟩
theorem real_if : Real ifW := ⟨by decide, fun c h => by simp [ifW] at h⟩
theorem real_lp : Real lpW := ⟨by decide, fun c h => by simp [lpW] at h; simp [← h]⟩
theorem real_rp : Real rpW := ⟨by decide, fun c h => by simp [rpW] at h; simp [← h]⟩
theorem real_sc : Real scW := ⟨by decide, fun c h => by simp [scW] at h; simp [← h]⟩
theorem real_long {w : List UInt8} (h : 2 ≤ w.length) : Real w := ⟨by rintro rfl; simp at h, fun c hc => by subst hc; simp at h⟩
theorem real_chk : ∀ w, w ∈ chk → Real w := fun w hw => real_long ((by decide : ∀ w, w ∈ chk → 2 ≤ w.length) w hw)
theorem real_vls : ∀ w, w ∈ vls → Real w := fun w hw => real_long ((by decide : ∀ w, w ∈ vls → 2 ≤ w.length) w hw)
theorem real_vds : ∀ w, w ∈ vds → Real w := fun w hw => real_long ((by decide : ∀ w, w ∈ vds → 2 ≤ w.length) w hw)
end Tdoc
/- The smallest conditions in both parsers. -/
set_option linter.unusedVariables false
set_option linter.unusedSimpArgs false
namespace Tdoc
open Go Go.Proofs

theorem Right.one {text : List UInt8} {ws : List Wd} {bro : Int} {s : PS} {rs : RS} (h : Right text ws bro s rs) (hb : bro = -1 ∨ 0 ≤ bro) {l : List (List UInt8)} (hl : ∀ w, w ∈ l → Real w) :
    (sIdx l (peekR ws rs) + 1 ≠ 0 ∧ oneP text s l = (sIdx l (peekR ws rs) + 1, nextP text s) ∧ Right text ws bro (nextP text s) rs.inc) ∨ (sIdx l (peekR ws rs) + 1 = 0 ∧ oneP text s l = (0, { s with wr := true }) ∧ Wrong { s with wr := true } (failR ws rs)) := by
  have he := h.idx hl
  unfold oneP
  rw [he]
  by_cases hz : sIdx l (peekR ws rs) + 1 = 0
  · right
    rw [if_pos (.inl hz)]
    exact ⟨hz, rfl, h.fail hb⟩
  · left
    rw [if_neg (by rintro (hh | hh); exact hz hh; rw [h.wr] at hh; cases hh)]
    refine ⟨hz, rfl, h.next ?_⟩
    rcases h.now with hn | hn
    · exact hn
    · rw [hn.peek] at hz
      exact absurd (by rw [sIdx_none fun j hj hh => (hl _ (List.getElem_mem hj)).1 hh]; rfl) hz

theorem set_wr {s : PS} (h : s.wr = true) : { s with wr := true } = s := by cases s; simp at h; simp [h]
theorem oneP_wr {text : List UInt8} {s : PS} {l : List (List UInt8)} (h : s.wr = true) : oneP text s l = (0, s) := by unfold oneP; rw [if_pos (.inr h), set_wr h]

theorem atom_wrong (text : List UInt8) (ws : List Wd) (n n' : Nat) (s : PS) (rs : RS) (h : Wrong s rs) : Wrong (atomP text n s).2 (atomR ws n' rs).2 := by
  have e1 : (atomP text n s).2 = s := by
    cases n with
    | zero => rfl
    | succ n =>
      unfold atomP
      rw [isP_wr h.1]
      simp only
      rw [if_neg (by simp), isP_wr h.1, if_neg (by simp)]
      unfold isAtomP
      rw [oneP_wr h.1]
      simp only
      rw [isP_wr h.1]
      rfl
  have e2 : (atomR ws n' rs).2 = rs := by
    cases n' with
    | zero => rfl
    | succ n' => unfold atomR; rw [if_pos h.2.1]
  rw [e1, e2]; exact h

theorem atom_rel {text : List UInt8} {ws : List Wd} {bro : Int} (hb : bro = -1 ∨ 0 ≤ bro) : ∀ (n n' : Nat), PRel text ws bro n n' (atomP text n) (atomR ws n')
  | 0, n' => ⟨fun s rs _ h1 _ => by omega, fun s rs h => atom_wrong text ws 0 n' s rs h⟩
  | n + 1, 0 => ⟨fun s rs _ _ h2 => by omega, fun s rs h => atom_wrong text ws _ 0 s rs h⟩
  | n + 1, n' + 1 => by
    have ih := atom_rel (text := text) (ws := ws) hb n n'
    have hc := series_rel (series_rel ih (atomP_ok text n) (atomR_ok ws n') 3 real_and) (conjP_ok text n) (conjR_ok ws n') 4 real_or
    refine ⟨fun s rs h h1 h2 => ?_, fun s rs h => atom_wrong text ws _ _ s rs h⟩
    have hi : rs.inc.i = rs.i + 1 := rfl
    have hbad := h.bad
    unfold atomP atomR
    rw [if_neg (by omega : ¬ 0 ≤ rs.bad)]
    by_cases he1 : peekR ws rs = notW
    · have hlt := (h.word real_not he1).lt
      obtain ⟨e1, k1⟩ := h.isT real_not he1
      have ht := isP_true (w := notW) h.inv (by rw [e1])
      rw [e1] at ht
      have : notW.length = 3 := rfl
      obtain ⟨t1, t2, t3⟩ := ht
      simp only at t1 t2 t3
      rw [e1, if_pos rfl, if_pos he1]
      rcases ih.right _ _ k1 (by omega) (by omega) with ⟨v1, v2⟩ | v1
      · left; exact ⟨v1, by simp only [v2]⟩
      · right; exact v1
    · rw [h.isF real_not he1, if_neg (by simp), if_neg he1]
      simp only
      by_cases he2 : peekR ws rs = lpW
      · have hlt := (h.word real_lp he2).lt
        obtain ⟨e1, k1⟩ := h.isT real_lp he2
        have ht := isP_true (w := lpW) h.inv (by rw [e1])
        rw [e1] at ht
        have : lpW.length = 1 := rfl
        obtain ⟨t1, t2, t3⟩ := ht
        simp only at t1 t2 t3
        rw [e1, if_pos rfl, if_pos he2]
        simp only
        rcases hc.right _ _ k1 (by omega) (by omega) with ⟨v1, v2⟩ | v1
        · rcases v1.needP hb real_rp with x1 | x1
          · left; exact ⟨x1, v2⟩
          · right; exact x1
        · right; exact v1.needP text ws rpW
      · rw [h.isF real_lp he2, if_neg (by simp), if_neg he2]
        simp only
        unfold isAtomP
        rcases h.one hb real_chk with ⟨z1, z2, z3⟩ | ⟨z1, z2, z3⟩
        · rw [z2, if_neg z1]
          simp only
          by_cases he3 : peekR ws rs.inc = isW
          · obtain ⟨y1, y2⟩ := z3.isT real_is he3
            rw [y1, if_pos rfl, if_pos he3]
            simp only
            rcases y2.one hb real_vls with ⟨x1, x2, x3⟩ | ⟨x1, x2, x3⟩
            · rw [x2, if_neg x1]
              left; exact ⟨x3, rfl⟩
            · rw [x2, if_pos x1]
              right; exact x3.inc
          · rw [z3.isF real_is he3, if_neg (by simp), if_neg he3]
            left; exact ⟨z3, rfl⟩
        · rw [z2, if_pos z1]
          simp only
          rw [isP_wr (by rfl), if_neg (by simp)]
          right; exact z3

theorem cond_rel {text : List UInt8} {ws : List Wd} {bro : Int} (hb : bro = -1 ∨ 0 ≤ bro) (n n' : Nat) : PRel text ws bro n n' (condP text n) (condR' ws n') :=
  series_rel (series_rel (atom_rel hb n n') (atomP_ok text n) (atomR_ok ws n') 3 real_and) (conjP_ok text n) (conjR_ok ws n') 4 real_or
end Tdoc
/- The two parsers agree. -/
set_option linter.unusedVariables false
set_option linter.unusedSimpArgs false
namespace Tdoc
open Go Go.Proofs

theorem rule_rel {text : List UInt8} {ws : List Wd} {bro : Int} (hb : bro = -1 ∨ 0 ≤ bro) {s : PS} {rs : RS} (h : Right text ws bro s rs) :
    (sIdx vds (peekR ws rs) + 1 = 0 ∧ Wrong (ruleP text (text.length + 1) s).2 (failR ws rs)) ∨
    (sIdx vds (peekR ws rs) + 1 ≠ 0 ∧ ((Right text ws bro (ruleP text (text.length + 1) s).2 (ruleR ws rs).2 ∧ (ruleP text (text.length + 1) s).1 = (ruleR ws rs).1) ∨ Wrong (ruleP text (text.length + 1) s).2 (ruleR ws rs).2)) := by
  unfold ruleP ruleR
  rcases h.one hb real_vds with ⟨z1, z2, z3⟩ | ⟨z1, z2, z3⟩
  · right
    refine ⟨z1, ?_⟩
    rw [z2]
    simp only
    by_cases he : peekR ws rs.inc = ifW
    · obtain ⟨y1, y2⟩ := z3.isT real_if he
      rw [y1, if_pos rfl, if_pos he]
      simp only
      rcases (cond_rel hb (text.length + 1) (ws.length + 1)).right _ _ y2 (by omega) (by omega) with ⟨v1, v2⟩ | v1
      · rcases v1.needP hb real_sc with x1 | x1
        · left; exact ⟨x1, by rw [v2]⟩
        · right; exact x1
      · right; exact v1.needP text ws scW
    · rw [z3.isF real_if he, if_neg (by simp), if_neg he]
      rcases z3.needP hb real_sc with x1 | x1
      · left; exact ⟨x1, rfl⟩
      · right; exact x1
  · left
    refine ⟨z1, ?_⟩
    rw [z2]
    simp only
    rw [isP_wr (by rfl), if_neg (by simp)]
    simp only
    have e1 : needP text { s with wr := true } scW = { s with wr := true } := by
      unfold needP; rw [isP_wr (by rfl)]; rfl
    rw [e1]
    exact z3

/-- How both end. -/
def Ends (bro : Int) (p : List Rule × PS) (r : List Rule × RS) : Prop :=
  Wrong p.2 r.2 ∨ (p.1 = r.1 ∧ p.2.wr = false ∧ r.2.bad < 0 ∧ bro = -1) ∨ (p.2.wr = true ∧ r.2.bad < 0 ∧ 0 ≤ bro ∧ (p.2.na : Int) = bro)

theorem rulesP_wrong {text : List UInt8} {s : PS} (h : s.wr = true) : ∀ (m : Nat) (l : List Rule), rulesP text m l s = (l, s)
  | 0, l => rfl
  | m + 1, l => by rw [rulesP, if_neg (by rw [h]; simp)]
theorem rulesR_wrong {ws : List Wd} {s : RS} (h : 0 ≤ s.bad) : ∀ (m : Nat) (l : List Rule), rulesR ws m l s = (l, s)
  | 0, l => rfl
  | m + 1, l => by rw [rulesR, if_neg (by omega)]

theorem rules_rel {text : List UInt8} (hl : text.length ≤ 1000000) {ws : List Wd} (hws : ws.length ≤ 1000000) {bro : Int} (hb : bro = -1 ∨ 0 ≤ bro) : ∀ (m m' : Nat) (l : List Rule) (s : PS) (rs : RS), Right text ws bro s rs → text.length - s.na + 1 < m → ws.length - rs.i < m' →
    Ends bro (rulesP text m l s) (rulesR ws m' l rs)
  | 0, m', l, s, rs, h, h1, h2 => by omega
  | m + 1, 0, l, s, rs, h, h1, h2 => by omega
  | m + 1, m' + 1, l, s, rs, h, h1, h2 => by
    rw [rulesP, rulesR]
    have hbad := h.bad
    have hrr := rule_rel hb h
    rcases h.now with hn | hn
    · have hlt := hn.lt
      rw [if_pos ⟨hn.2.1, h.wr⟩, if_pos ⟨hbad, hlt⟩]
      obtain ⟨k1, k2, k3, k4⟩ := ruleP_ok hl h.inv hn.2.1
      obtain ⟨r1, r2, r3⟩ := ruleR_ok hws hlt
      rcases hrr with ⟨z1, z2⟩ | ⟨z1, z2⟩
      · rw [if_pos z1, rulesP_wrong z2.1]
        exact .inl z2
      · rw [if_neg z1]
        rcases z2 with ⟨z2, z3⟩ | z2
        · rw [z3]
          have hwr := z2.wr
          have := k1.a; have := k1.le
          exact rules_rel hl hws hb m m' _ _ _ z2 (by rw [hwr] at k3; have := k3.resolve_left (by simp); omega) (by omega)
        · rw [rulesP_wrong z2.1, rulesR_wrong z2.2.1]
          exact .inl z2
    · rw [if_neg (by rw [hn.1]; omega : ¬ (rs.bad < 0 ∧ rs.i < ws.length))]
      rcases hn.2.2.2 with ⟨e1, e2⟩ | ⟨e1, e2⟩
      · rw [if_neg (fun hh => hh.1 e1)]
        exact .inr (.inl ⟨rfl, h.wr, hbad, e2⟩)
      · rw [if_pos ⟨e1, h.wr⟩]
        have hz : sIdx vds (peekR ws rs) + 1 = 0 := by
          rw [hn.peek]; decide
        rcases hrr with ⟨z1, z2⟩ | ⟨z1, z2⟩
        · rw [rulesP_wrong z2.1]
          refine .inr (.inr ⟨z2.1, hbad, e2, ?_⟩)
          have h3 := z2.2.2
          have e3 : (failR ws rs).bad = rs.en := by
            unfold failR; rw [if_pos hbad]
            simp only [List.getElem?_eq_none (show ws.length ≤ rs.i by rw [hn.1]; omega)]
          rw [e3, h.en, endR, if_pos e2] at h3
          exact h3.symm
        · exact absurd hz z1

theorem wordsR_bro (text : List UInt8) : ∀ (m i : Nat) (out : List Wd), (wordsR text m i out).2 = -1 ∨ 0 ≤ (wordsR text m i out).2
  | 0, i, out => .inl rfl
  | m + 1, i, out => by
    rw [wordsR]
    split
    · exact .inl rfl
    · split
      · exact wordsR_bro text m _ _
      · split
        · exact wordsR_bro text m _ _
        · split
          · exact wordsR_bro text m _ _
          · split
            · exact wordsR_bro text m _ _
            · right; simp

theorem parsers_agree (text : List UInt8) (hl : text.length ≤ 1000000) : parseP text = parseR text := by
  unfold parseP parseR
  split
  · rfl
  · have hbro := wordsR_bro text (text.length + 1) 0 []
    have hws := wordsR_len text (text.length + 1) 0 [] (by simp) (by simp)
    have hnw := next_words text ⟨0, [], 0, false⟩ (by simp)
    have hi0 : Inv text ⟨0, [], 0, false⟩ := ⟨rfl, by simp⟩
    obtain ⟨i1, i2, i3⟩ := hi0.next
    unfold parseQ parseQR
    change ((wordsR text (text.length + 1) 0 []) = _ ∧ _) ∨ ((wordsR text (text.length + 1) 0 []).1 = [] ∧ _ = endR text (wordsR text (text.length + 1) 0 []).2 ∧ _ ∧ ((_ ∧ (wordsR text (text.length + 1) 0 []).2 = -1) ∨ (_ ∧ 0 ≤ (wordsR text (text.length + 1) 0 []).2))) at hnw
    generalize wordsR text (text.length + 1) 0 [] = wb at hbro hws hnw ⊢
    obtain ⟨ws, bro⟩ := wb
    generalize nextP text ⟨0, [], 0, false⟩ = s at hnw i1 i2 i3 ⊢
    simp only at hbro hws hnw i3 ⊢
    have hR : Right text ws bro s ⟨0, endR text bro, -1⟩ := by
      refine ⟨i3, (by show (-1 : Int) < 0; omega), i1, rfl, ?_⟩
      rcases hnw with ⟨q1, q2⟩ | ⟨q1, q2, q3, q4⟩
      · left
        have e1 := congrArg Prod.fst q1
        have e2 := congrArg Prod.snd q1
        simp only at e1 e2
        refine ⟨by rw [e1]; rfl, q2, ?_⟩
        rw [e1, e2]; rfl
      · right
        exact ⟨by rw [q1]; rfl, q2, q3, q4⟩
    have hE := rules_rel hl (by omega) hbro (text.length + 3) (ws.length + 1) [] s _ hR (by omega) (by simp only; omega)
    generalize rulesP text (text.length + 3) [] s = p at hE ⊢
    generalize rulesR ws (ws.length + 1) [] ⟨0, endR text bro, -1⟩ = r at hE ⊢
    unfold badR
    rcases hE with ⟨h1, h2, h3⟩ | ⟨h1, h2, h3, h4⟩ | ⟨h1, h2, h3, h4⟩
    · rw [if_pos h1, if_neg (by omega : ¬ r.2.bad < 0), if_pos h2, h3]
    · rw [if_neg (by rw [h2]; simp), if_pos h3, h1, if_neg (show ¬ 0 ≤ bro by omega)]
    · rw [if_pos h1, if_pos h2, if_pos h3, h4]
end Tdoc
/- The law's answer. -/
set_option linter.unusedVariables false
set_option linter.unusedSimpArgs false
namespace Tdoc
open Go Go.Proofs

theorem rulesR_small {ws : List Wd} (hl : ws.length ≤ 1000000) : ∀ (m : Nat) (l : List Rule) (s : RS), (∀ r, r ∈ l → smallC (condR r)) → ∀ r, r ∈ (rulesR ws m l s).1 → smallC (condR r)
  | 0, l, s, h => h
  | m + 1, l, s, h => by
    rw [rulesR]
    split
    · rename_i hc
      split
      · exact h
      · refine rulesR_small hl m _ _ fun r hr => ?_
        rcases List.mem_append.1 hr with hr | hr
        · exact h r hr
        · simp at hr; subst hr; exact (ruleR_ok hl hc.2).2.2
    · exact h

theorem parseR_small (text : List UInt8) (hl : text.length ≤ 1000000) : (parseR text).1.length ≤ 1000000 ∧ ∀ r, r ∈ (parseR text).1 → smallC (condR r) := by
  have hws := wordsR_len text (text.length + 1) 0 [] (by simp) (by simp)
  unfold parseR
  split
  · exact ⟨by simp, fun r hr => by cases hr⟩
  · split
    · exact ⟨by simp, fun r hr => by cases hr⟩
    · split
      · exact ⟨by simp, fun r hr => by cases hr⟩
      · rename_i hv
        refine ⟨?_, fun r hr => rulesR_small (by omega) _ _ _ (fun r hr => by cases hr) r hr⟩
        simp only [ne_eq, Decidable.not_not] at hv
        unfold validPol at hv
        split at hv
        · cases hv
        · simp only; omega

theorem policyParses_spec (text : List UInt8) (_ : text.length ≤ maxLen) : Spec Try.prog 3 [.d (.str text)] [] (fun r h' => r = .d (.bool true) ∧ h' = []) :=
  law_spec text (fun h => parsers_agree text (by omega)) (fun h => parseR_small text (by omega))
end Tdoc
/- Package traveldocmill: Mod, Light, dice. -/
set_option linter.unusedVariables false
set_option linter.unusedSimpArgs false
namespace Tdoc
open Go Go.Proofs

def modP (x n : Int) : Int := if n < 1 then 0 else x % n

theorem tmod_lt {x n : Int} (h : 1 ≤ n) : -n < x.tmod n ∧ x.tmod n < n := by
  have h1 := Int.tmod_lt_of_pos x (b := n) (by omega)
  have h2 : (-x).tmod n < n := Int.tmod_lt_of_pos (-x) (b := n) (by omega)
  rw [Int.neg_tmod] at h2
  omega

theorem mod_tmod {x n : Int} (h : 1 ≤ n) : (x.tmod n + n).tmod n = x % n := by
  have hb := tmod_lt (x := x) h
  rw [Int.tmod_eq_emod_of_nonneg (by omega), Int.add_emod_right]
  have h2 := Int.mul_tdiv_add_tmod x n
  have h3 : x % n = (x.tmod n + n * x.tdiv n) % n := by rw [Int.add_comm, h2]
  rw [h3, Int.add_mul_emod_self_left]

theorem modP_range {x n : Int} (h : 1 ≤ n) : 0 ≤ modP x n ∧ modP x n < n := by
  unfold modP
  rw [if_neg (by omega)]
  exact ⟨Int.emod_nonneg _ (by omega), Int.emod_lt_of_pos _ (by omega)⟩

set_option maxRecDepth 100000 in
theorem Mod_spec (x n : Int) (hn : n ≤ 4611686018427387904) : Spec Try.prog 11 [.d (.int .i64 x), .d (.int .i64 n)] [] (fun r h' => r = .d (.int .i64 (modP x n)) ∧ h' = []) := by
  refine Spec_of_body hT Try.func11 rfl rfl rfl rfl ?_
  intro E hE
  repeat (first | refine AWd_step hT rfl rfl rfl (by first | exact True.intro | omega | exact sd) ?_ | refine AWk_step hT rfl rfl (by first | exact True.intro | omega | exact sd) ?_ | refine AWk_step0 hT rfl (by first | exact True.intro | omega | exact sd) ?_ | refine AWd_nil ?_ | refine AWk_nil ?_ | refine AWd_gstep hT rfl rfl rfl rfl rfl (by intro hg; first | exact ⟨True.intro, True.intro⟩ | exact sg hg) ?_ | refine AWk_gstep hT rfl rfl rfl rfl (by intro hg; first | exact ⟨True.intro, True.intro⟩ | exact sg hg) ?_ | refine AW_seq ?_ | refine AW_region ?_ | refine AW_draw mixed (by kernel_rfl) ?_ | refine AW_block ?_ | refine AW_skip ?_ | refine AW_exit ?_ | refine AW_ret ?_)
  refine AW_condL rfl (fun h1 => ?_) (fun h1 => ?_)
  · have h1' : n < 1 := by simpa using h1
    have hm : modP x n = 0 := by unfold modP; rw [if_pos h1']
    rw [hm]
    repeat (first | refine AWd_step hT rfl rfl rfl (by first | exact True.intro | omega | exact sd) ?_ | refine AWk_step hT rfl rfl (by first | exact True.intro | omega | exact sd) ?_ | refine AWk_step0 hT rfl (by first | exact True.intro | omega | exact sd) ?_ | refine AWd_nil ?_ | refine AWk_nil ?_ | refine AWd_gstep hT rfl rfl rfl rfl rfl (by intro hg; first | exact ⟨True.intro, True.intro⟩ | exact sg hg) ?_ | refine AWk_gstep hT rfl rfl rfl rfl (by intro hg; first | exact ⟨True.intro, True.intro⟩ | exact sg hg) ?_ | refine AW_seq ?_ | refine AW_region ?_ | refine AW_draw mixed (by kernel_rfl) ?_ | refine AW_block ?_ | refine AW_skip ?_ | refine AW_exit ?_ | refine AW_ret ?_)
    exact ret_exact rfl (.refl _) rfl rfl rfl rfl ⟨rfl, rfl⟩
  · have h1' : ¬ n < 1 := by simpa using h1
    have hne : n ≠ 0 := by omega
    have hb := tmod_lt (x := x) (n := n) (by omega)
    have hw : IntKind.i64.wrap (x.tmod n + n) = x.tmod n + n := wrap_id (by omega)
    have hm : (IntKind.i64.wrap (x.tmod n + n)).tmod n = modP x n := by rw [hw, mod_tmod (by omega)]; unfold modP; rw [if_neg h1']
    rw [← hm]
    repeat (first | refine AWd_step hT rfl rfl rfl (by first | exact True.intro | omega | exact sd) ?_ | refine AWk_step hT rfl rfl (by first | exact True.intro | omega | exact sd) ?_ | refine AWk_step0 hT rfl (by first | exact True.intro | omega | exact sd) ?_ | refine AWd_nil ?_ | refine AWk_nil ?_ | refine AWd_gstep hT rfl rfl rfl rfl rfl (by intro hg; first | exact ⟨True.intro, True.intro⟩ | exact sg hg) ?_ | refine AWk_gstep hT rfl rfl rfl rfl (by intro hg; first | exact ⟨True.intro, True.intro⟩ | exact sg hg) ?_ | refine AW_seq ?_ | refine AW_region ?_ | refine AW_draw mixed (by kernel_rfl) ?_ | refine AW_block ?_ | refine AW_skip ?_ | refine AW_exit ?_ | refine AW_ret ?_)
    exact ret_exact rfl (.refl _) rfl rfl rfl rfl ⟨rfl, rfl⟩

theorem numsD_length (k : IntKind) (l : List Int) : (numsD k l).length = l.length := by simp [numsD]

set_option maxRecDepth 100000 in
theorem Light_spec (l : List Int) : Spec Try.prog 13 [.d (.sl 1 (numsD .i64 l))] [] (fun r h' => r = .d (.bool (decide (l.length ≤ 80))) ∧ h' = []) := by
  refine Spec_of_body hT Try.func13 rfl rfl rfl rfl ?_
  intro E hE
  have hl := numsD_length .i64 l
  generalize numsD .i64 l = es at hl
  repeat (first | refine AWd_step hT rfl rfl rfl (by first | exact True.intro | omega | exact sd) ?_ | refine AWk_step hT rfl rfl (by first | exact True.intro | omega | exact sd) ?_ | refine AWk_step0 hT rfl (by first | exact True.intro | omega | exact sd) ?_ | refine AWd_nil ?_ | refine AWk_nil ?_ | refine AWd_gstep hT rfl rfl rfl rfl rfl (by intro hg; first | exact ⟨True.intro, True.intro⟩ | exact sg hg) ?_ | refine AWk_gstep hT rfl rfl rfl rfl (by intro hg; first | exact ⟨True.intro, True.intro⟩ | exact sg hg) ?_ | refine AW_seq ?_ | refine AW_region ?_ | refine AW_draw mixed (by kernel_rfl) ?_ | refine AW_block ?_ | refine AW_skip ?_ | refine AW_exit ?_ | refine AW_ret ?_)
  refine ret_exact rfl (.refl _) rfl rfl rfl rfl ⟨?_, rfl⟩
  rw [hl]
  refine congrArg (fun b => AV.d (.bool b)) (decide_eq_decide.2 (by omega))

/-- Dice: the numbers, and how many have been given out. -/
def dice (l : List Int) (at_ : Nat) : List AV := [.d (.sl 1 (numsD .i64 l)), .d (.int .i64 (at_ : Int))]

set_option maxRecDepth 100000 in
theorem Roll_spec (l : List Int) (hl : l.length ≤ 1000000) : Spec Try.prog 15 [.d (.sl 1 (numsD .i64 l))] [.room] (fun r h' => r = .ptr 0 0 ∧ h' = [.row (dice l 0)]) := by
  refine Spec_of_body hT Try.func15 rfl rfl rfl rfl ?_
  intro E hE
  have hll := numsD_length .i64 l
  unfold dice
  generalize numsD .i64 l = es at hll
  repeat (first | refine AWd_step hT rfl rfl rfl (by first | exact True.intro | omega | exact sd) ?_ | refine AWk_step hT rfl rfl (by first | exact True.intro | omega | exact sd) ?_ | refine AWk_step0 hT rfl (by first | exact True.intro | omega | exact sd) ?_ | refine AWd_nil ?_ | refine AWk_nil ?_ | refine AWd_gstep hT rfl rfl rfl rfl rfl (by intro hg; first | exact ⟨True.intro, True.intro⟩ | exact sg hg) ?_ | refine AWk_gstep hT rfl rfl rfl rfl (by intro hg; first | exact ⟨True.intro, True.intro⟩ | exact sg hg) ?_ | refine AW_seq ?_ | refine AW_region ?_ | refine AW_draw mixed (by kernel_rfl) ?_ | refine AW_block ?_ | refine AW_skip ?_ | refine AW_exit ?_ | refine AW_ret ?_)
  refine AWk_op (append_full (es := []) hT rfl rfl rfl (.inl rfl) rfl (by show (([] : List (List Dat)).length + es.length) * (8 + 1) ≤ 140737488355328; simp; omega)) rfl ?_
  refine AWk_step hT rfl rfl (by first | exact True.intro | exact (fun hh => hh) | omega | assumption | (intro hh; rw [hh]; rfl) | (intro hh; simp [gval, hh]; done) | (simp; omega)) ?_
  refine AWk_op (boxAt_ok (i0 := 0) rfl rfl rfl) rfl ?_
  repeat (first | refine AWd_step hT rfl rfl rfl (by first | exact True.intro | omega | exact sd) ?_ | refine AWk_step hT rfl rfl (by first | exact True.intro | omega | exact sd) ?_ | refine AWk_step0 hT rfl (by first | exact True.intro | omega | exact sd) ?_ | refine AWd_nil ?_ | refine AWk_nil ?_ | refine AWd_gstep hT rfl rfl rfl rfl rfl (by intro hg; first | exact ⟨True.intro, True.intro⟩ | exact sg hg) ?_ | refine AWk_gstep hT rfl rfl rfl rfl (by intro hg; first | exact ⟨True.intro, True.intro⟩ | exact sg hg) ?_ | refine AW_seq ?_ | refine AW_region ?_ | refine AW_draw mixed (by kernel_rfl) ?_ | refine AW_block ?_ | refine AW_skip ?_ | refine AW_exit ?_ | refine AW_ret ?_)
  exact ret_exact rfl (.refl _) rfl rfl rfl rfl ⟨rfl, rfl⟩

def nextV (l : List Int) (at_ : Nat) (n : Int) : Int := match l[at_]? with
  | none => 0
  | some x => modP x n
def nextA (l : List Int) (at_ : Nat) : Nat := if at_ < l.length then at_ + 1 else at_

theorem nextA_le {l : List Int} {a : Nat} (h : a ≤ l.length) : nextA l a ≤ l.length := by unfold nextA; split <;> omega
theorem nextV_range {l : List Int} {a : Nat} {n : Int} (h : 1 ≤ n) : 0 ≤ nextV l a n ∧ nextV l a n < n := by
  unfold nextV
  split
  · omega
  · exact modP_range h

set_option maxRecDepth 100000 in
theorem Next_spec (l : List Int) (a : Nat) (n : Int) (hn : n ≤ 4611686018427387904) (hl : l.length ≤ 1000000) (ha : a ≤ l.length) :
    Spec Try.prog 33 [.ptr 0 0, .d (.int .i64 n)] [.row (dice l a)] (fun r h' => r = .d (.int .i64 (nextV l a n)) ∧ h' = [.row (dice l (nextA l a))]) := by
  refine Spec_of_body hT Try.func33 rfl rfl rfl rfl ?_
  intro E hE
  have hll := numsD_length .i64 l
  unfold dice
  repeat (first | refine AWd_step hT rfl rfl rfl (by first | exact True.intro | omega | exact sd) ?_ | refine AWk_step hT rfl rfl (by first | exact True.intro | omega | exact sd) ?_ | refine AWk_step0 hT rfl (by first | exact True.intro | omega | exact sd) ?_ | refine AWd_nil ?_ | refine AWk_nil ?_ | refine AWd_gstep hT rfl rfl rfl rfl rfl (by intro hg; first | exact ⟨True.intro, True.intro⟩ | exact sg hg) ?_ | refine AWk_gstep hT rfl rfl rfl rfl (by intro hg; first | exact ⟨True.intro, True.intro⟩ | exact sg hg) ?_ | refine AW_seq ?_ | refine AW_region ?_ | refine AW_draw mixed (by kernel_rfl) ?_ | refine AW_block ?_ | refine AW_skip ?_ | refine AW_exit ?_ | refine AW_ret ?_)
  refine AW_condL rfl (fun h1 => ?_) (fun h1 => ?_)
  · have h1' : ¬ a < l.length := by rw [hll] at h1; simp at h1; omega
    have hget : l[a]? = none := List.getElem?_eq_none (by omega)
    have hv : nextV l a n = 0 := by simp [nextV, hget]
    have hv2 : nextA l a = a := by simp [nextA, h1']
    rw [hv, hv2]
    repeat (first | refine AWd_step hT rfl rfl rfl (by first | exact True.intro | omega | exact sd) ?_ | refine AWk_step hT rfl rfl (by first | exact True.intro | omega | exact sd) ?_ | refine AWk_step0 hT rfl (by first | exact True.intro | omega | exact sd) ?_ | refine AWd_nil ?_ | refine AWk_nil ?_ | refine AWd_gstep hT rfl rfl rfl rfl rfl (by intro hg; first | exact ⟨True.intro, True.intro⟩ | exact sg hg) ?_ | refine AWk_gstep hT rfl rfl rfl rfl (by intro hg; first | exact ⟨True.intro, True.intro⟩ | exact sg hg) ?_ | refine AW_seq ?_ | refine AW_region ?_ | refine AW_draw mixed (by kernel_rfl) ?_ | refine AW_block ?_ | refine AW_skip ?_ | refine AW_exit ?_ | refine AW_ret ?_)
    exact ret_exact rfl (.refl _) rfl rfl rfl rfl ⟨rfl, rfl⟩
  · have h1' : a < l.length := by rw [hll] at h1; simp at h1; omega
    have hw1 : IntKind.i64.wrap ((a : Int) + 1) = ((a + 1 : Nat) : Int) := by rw [wrap_id (by omega)]; simp
    have hw2 : IntKind.i64.wrap (((a + 1 : Nat) : Int) - 1) = (a : Int) := by rw [wrap_id (by omega)]; omega
    have h0 : 0 ≤ IntKind.i64.wrap (IntKind.i64.wrap ((a : Int) + 1) - 1) := by rw [hw1, hw2]; omega
    have hel : (numsD .i64 l)[(IntKind.i64.wrap (IntKind.i64.wrap ((a : Int) + 1) - 1)).toNat]? = some [.int .i64 l[a]] := by rw [hw1, hw2]; simp [numsD, h1']
    have hv : nextV l a n = modP l[a] n := by simp [nextV, h1']
    have hm := Mod_spec l[a] n hn
    rw [← hv] at hm
    generalize l[a] = x at hel hm
    repeat (first | refine AWd_step hT rfl rfl rfl (by first | exact True.intro | omega | exact sd) ?_ | refine AWk_step hT rfl rfl (by first | exact True.intro | omega | exact sd) ?_ | refine AWk_step0 hT rfl (by first | exact True.intro | omega | exact sd) ?_ | refine AWd_nil ?_ | refine AWk_nil ?_ | refine AWd_gstep hT rfl rfl rfl rfl rfl (by intro hg; first | exact ⟨True.intro, True.intro⟩ | exact sg hg) ?_ | refine AWk_gstep hT rfl rfl rfl rfl (by intro hg; first | exact ⟨True.intro, True.intro⟩ | exact sg hg) ?_ | refine AW_seq ?_ | refine AW_region ?_ | refine AW_draw mixed (by kernel_rfl) ?_ | refine AW_block ?_ | refine AW_skip ?_ | refine AW_exit ?_ | refine AW_ret ?_)
    refine AWd_op (OpS_of_pure (indexAddr_ok hT rfl rfl rfl rfl h0 hel)) rfl rfl ?_
    repeat (first | refine AWd_step hT rfl rfl rfl (by first | exact True.intro | omega | exact sd) ?_ | refine AWk_step hT rfl rfl (by first | exact True.intro | omega | exact sd) ?_ | refine AWk_step0 hT rfl (by first | exact True.intro | omega | exact sd) ?_ | refine AWd_nil ?_ | refine AWk_nil ?_ | refine AWd_gstep hT rfl rfl rfl rfl rfl (by intro hg; first | exact ⟨True.intro, True.intro⟩ | exact sg hg) ?_ | refine AWk_gstep hT rfl rfl rfl rfl (by intro hg; first | exact ⟨True.intro, True.intro⟩ | exact sg hg) ?_ | refine AW_seq ?_ | refine AW_region ?_ | refine AW_draw mixed (by kernel_rfl) ?_ | refine AW_block ?_ | refine AW_skip ?_ | refine AW_exit ?_ | refine AW_ret ?_)
    refine AWd_op (callS0 rfl rfl hm rfl rfl rfl) rfl rfl ?_
    repeat (first | refine AWd_step hT rfl rfl rfl (by first | exact True.intro | omega | exact sd) ?_ | refine AWk_step hT rfl rfl (by first | exact True.intro | omega | exact sd) ?_ | refine AWk_step0 hT rfl (by first | exact True.intro | omega | exact sd) ?_ | refine AWd_nil ?_ | refine AWk_nil ?_ | refine AWd_gstep hT rfl rfl rfl rfl rfl (by intro hg; first | exact ⟨True.intro, True.intro⟩ | exact sg hg) ?_ | refine AWk_gstep hT rfl rfl rfl rfl (by intro hg; first | exact ⟨True.intro, True.intro⟩ | exact sg hg) ?_ | refine AW_seq ?_ | refine AW_region ?_ | refine AW_draw mixed (by kernel_rfl) ?_ | refine AW_block ?_ | refine AW_skip ?_ | refine AW_exit ?_ | refine AW_ret ?_)
    refine ret_exact rfl (.refl _) rfl rfl rfl rfl ⟨rfl, ?_⟩
    rw [hw1]
    simp [nextA, h1']

set_option maxRecDepth 100000 in
theorem Rest_spec (l : List Int) (a : Nat) (hl : l.length ≤ 1000000) (ha : a ≤ l.length) :
    Spec Try.prog 34 [.ptr 0 0] [.row (dice l a)] (fun r h' => r = .d (.int .i64 ((l.length - a : Nat) : Int)) ∧ h' = [.row (dice l a)]) := by
  refine Spec_of_body hT Try.func34 rfl rfl rfl rfl ?_
  intro E hE
  have hll := numsD_length .i64 l
  have hw : IntKind.i64.wrap (((numsD .i64 l).length : Int) - (a : Int)) = ((l.length - a : Nat) : Int) := by rw [hll, wrap_id (by omega)]; omega
  unfold dice
  repeat (first | refine AWd_step hT rfl rfl rfl (by first | exact True.intro | omega | exact sd) ?_ | refine AWk_step hT rfl rfl (by first | exact True.intro | omega | exact sd) ?_ | refine AWk_step0 hT rfl (by first | exact True.intro | omega | exact sd) ?_ | refine AWd_nil ?_ | refine AWk_nil ?_ | refine AWd_gstep hT rfl rfl rfl rfl rfl (by intro hg; first | exact ⟨True.intro, True.intro⟩ | exact sg hg) ?_ | refine AWk_gstep hT rfl rfl rfl rfl (by intro hg; first | exact ⟨True.intro, True.intro⟩ | exact sg hg) ?_ | refine AW_seq ?_ | refine AW_region ?_ | refine AW_draw mixed (by kernel_rfl) ?_ | refine AW_block ?_ | refine AW_skip ?_ | refine AW_exit ?_ | refine AW_ret ?_)
  refine AWd_op (OpS_of_pure (max2_ok (t2 := #[]) rfl rfl rfl)) rfl rfl ?_
  repeat (first | refine AWd_step hT rfl rfl rfl (by first | exact True.intro | omega | exact sd) ?_ | refine AWk_step hT rfl rfl (by first | exact True.intro | omega | exact sd) ?_ | refine AWk_step0 hT rfl (by first | exact True.intro | omega | exact sd) ?_ | refine AWd_nil ?_ | refine AWk_nil ?_ | refine AWd_gstep hT rfl rfl rfl rfl rfl (by intro hg; first | exact ⟨True.intro, True.intro⟩ | exact sg hg) ?_ | refine AWk_gstep hT rfl rfl rfl rfl (by intro hg; first | exact ⟨True.intro, True.intro⟩ | exact sg hg) ?_ | refine AW_seq ?_ | refine AW_region ?_ | refine AW_draw mixed (by kernel_rfl) ?_ | refine AW_block ?_ | refine AW_skip ?_ | refine AW_exit ?_ | refine AW_ret ?_)
  refine ret_exact rfl (.refl _) rfl rfl rfl rfl ⟨?_, rfl⟩
  rw [hw]
  refine congrArg (fun b => AV.d (.int .i64 b)) ?_
  split <;> omega
end Tdoc
/- Package traveldocmill: conditions and results out of numbers. -/
set_option linter.unusedVariables false
set_option linter.unusedSimpArgs false
namespace Tdoc
open Go Go.Proofs

/-! results -/
def resM (l : List Int) (k : Nat) : List Res := (List.range k).map fun j => (((j + 1 : Nat) : Int), 1 + nextV l (min j l.length) 4)
theorem resM_succ (l : List Int) (k : Nat) : resM l (k + 1) = resM l k ++ [(((k + 1 : Nat) : Int), 1 + nextV l (min k l.length) 4)] := by simp [resM, List.range_succ]
theorem resM_length (l : List Int) (k : Nat) : (resM l k).length = k := by simp [resM]
theorem encRes_append (a b : List Res) : encRes (a ++ b) = encRes a ++ encRes b := by simp [encRes]
theorem nextA_min (l : List Int) (k : Nat) : nextA l (min k l.length) = min (k + 1) l.length := by unfold nextA; split <;> omega

set_option maxHeartbeats 4000000 in
set_option maxRecDepth 100000 in
theorem Results_spec (l : List Int) (hl : l.length ≤ 1000000) : Spec Try.prog 16 [.d (.sl 1 (numsD .i64 l))] [] (fun r h' => r = .d (.sl 2 (encRes (resM l 13))) ∧ h' = []) := by
  refine Spec_of_body hT Try.func16 rfl rfl rfl rfl ?_
  intro E hE
  have hroll := Roll_spec l hl
  refine AW_room ?_
  repeat (first | refine AWd_step hT rfl rfl rfl (by first | exact True.intro | omega | exact sd) ?_ | refine AWk_step hT rfl rfl (by first | exact True.intro | omega | exact sd) ?_ | refine AWk_step0 hT rfl (by first | exact True.intro | omega | exact sd) ?_ | refine AWd_nil ?_ | refine AWk_nil ?_ | refine AWd_gstep hT rfl rfl rfl rfl rfl (by intro hg; first | exact ⟨True.intro, True.intro⟩ | exact sg hg) ?_ | refine AWk_gstep hT rfl rfl rfl rfl (by intro hg; first | exact ⟨True.intro, True.intro⟩ | exact sg hg) ?_ | refine AW_seq ?_ | refine AW_region ?_ | refine AW_draw mixed (by kernel_rfl) ?_ | refine AW_block ?_ | refine AW_skip ?_ | refine AW_exit ?_ | refine AW_ret ?_)
  refine AWk_opF (callS rfl rfl hroll [0] (by decide) rfl rfl rfl rfl rfl rfl) rfl rfl ?_
  repeat (first | refine AWd_step hT rfl rfl rfl (by first | exact True.intro | omega | exact sd) ?_ | refine AWk_step hT rfl rfl (by first | exact True.intro | omega | exact sd) ?_ | refine AWk_step0 hT rfl (by first | exact True.intro | omega | exact sd) ?_ | refine AWd_nil ?_ | refine AWk_nil ?_ | refine AWd_gstep hT rfl rfl rfl rfl rfl (by intro hg; first | exact ⟨True.intro, True.intro⟩ | exact sg hg) ?_ | refine AWk_gstep hT rfl rfl rfl rfl (by intro hg; first | exact ⟨True.intro, True.intro⟩ | exact sg hg) ?_ | refine AW_seq ?_ | refine AW_region ?_ | refine AW_draw mixed (by kernel_rfl) ?_ | refine AW_block ?_ | refine AW_skip ?_ | refine AW_exit ?_ | refine AW_ret ?_)
  refine AW_room (AW_acquireAt 4 2 1 (es := []) (.inr ⟨rfl, rfl⟩) rfl ?_)
  refine AW_loopL (ι := Nat) (fun k => [(3, .ptr 0 0), (4, .sl 2 (encRes (resM l k)) (.right 1)), (5, .d (.int .i64 ((k + 1 : Nat) : Int)))])
    (fun k => [.row (dice l (min k l.length)), .right 2 (encRes (resM l k)).length]) (fun k => k ≤ 13) (fun k => 13 - k) 0 (by omega) ⟨.refl _, .refl _, .refl _, trivial⟩ ?_ ?_
  · simp only [Nat.zero_min]; exact HLe.refl _
  intro k hk
  have hn := Next_spec l (min k l.length) 4 (by omega) hl (by omega)
  have hr := nextV_range (l := l) (a := min k l.length) (n := 4) (by omega)
  have hsucc := resM_succ l k
  have hlen := encRes_length (resM l k)
  have hrl := resM_length l k
  rw [nextA_min] at hn
  generalize nextV l (min k l.length) 4 = x at hn hr hsucc
  have hw1 : IntKind.i64.wrap (1 + x) = 1 + x := wrap_id (by omega)
  have hw2 : IntKind.i64.wrap (((k + 1 : Nat) : Int) + 1) = ((k + 1 + 1 : Nat) : Int) := by rw [wrap_id (by omega)]; omega
  repeat (first | refine AWd_step hT rfl rfl rfl (by first | exact True.intro | omega | exact sd) ?_ | refine AWk_step hT rfl rfl (by first | exact True.intro | omega | exact sd) ?_ | refine AWk_step0 hT rfl (by first | exact True.intro | omega | exact sd) ?_ | refine AWd_nil ?_ | refine AWk_nil ?_ | refine AWd_gstep hT rfl rfl rfl rfl rfl (by intro hg; first | exact ⟨True.intro, True.intro⟩ | exact sg hg) ?_ | refine AWk_gstep hT rfl rfl rfl rfl (by intro hg; first | exact ⟨True.intro, True.intro⟩ | exact sg hg) ?_ | refine AW_seq ?_ | refine AW_region ?_ | refine AW_draw mixed (by kernel_rfl) ?_ | refine AW_block ?_ | refine AW_skip ?_ | refine AW_exit ?_ | refine AW_ret ?_)
  refine AW_condL rfl (fun h1 => ?_) (fun h1 => ?_)
  · have hlt : k < 13 := by simp at h1; omega
    repeat (first | refine AWd_step hT rfl rfl rfl (by first | exact True.intro | omega | exact sd) ?_ | refine AWk_step hT rfl rfl (by first | exact True.intro | omega | exact sd) ?_ | refine AWk_step0 hT rfl (by first | exact True.intro | omega | exact sd) ?_ | refine AWd_nil ?_ | refine AWk_nil ?_ | refine AWd_gstep hT rfl rfl rfl rfl rfl (by intro hg; first | exact ⟨True.intro, True.intro⟩ | exact sg hg) ?_ | refine AWk_gstep hT rfl rfl rfl rfl (by intro hg; first | exact ⟨True.intro, True.intro⟩ | exact sg hg) ?_ | refine AW_seq ?_ | refine AW_region ?_ | refine AW_draw mixed (by kernel_rfl) ?_ | refine AW_block ?_ | refine AW_skip ?_ | refine AW_exit ?_ | refine AW_ret ?_)
    refine AWk_op (callS1 rfl rfl hn [0] (by decide) rfl rfl rfl rfl rfl rfl rfl) rfl ?_
    repeat (first | refine AWd_step hT rfl rfl rfl (by first | exact True.intro | omega | exact sd) ?_ | refine AWk_step hT rfl rfl (by first | exact True.intro | omega | exact sd) ?_ | refine AWk_step0 hT rfl (by first | exact True.intro | omega | exact sd) ?_ | refine AWd_nil ?_ | refine AWk_nil ?_ | refine AWd_gstep hT rfl rfl rfl rfl rfl (by intro hg; first | exact ⟨True.intro, True.intro⟩ | exact sg hg) ?_ | refine AWk_gstep hT rfl rfl rfl rfl (by intro hg; first | exact ⟨True.intro, True.intro⟩ | exact sg hg) ?_ | refine AW_seq ?_ | refine AW_region ?_ | refine AW_draw mixed (by kernel_rfl) ?_ | refine AW_block ?_ | refine AW_skip ?_ | refine AW_exit ?_ | refine AW_ret ?_)
    refine AWk_op (append_right (i := 1) hT rfl rfl rfl rfl rfl rfl (by show ((encRes (resM l k)).length + 1) * (16 + 1) ≤ 140737488355328; omega)) rfl ?_
    repeat (first | refine AWd_step hT rfl rfl rfl (by first | exact True.intro | omega | exact sd) ?_ | refine AWk_step hT rfl rfl (by first | exact True.intro | omega | exact sd) ?_ | refine AWk_step0 hT rfl (by first | exact True.intro | omega | exact sd) ?_ | refine AWd_nil ?_ | refine AWk_nil ?_ | refine AWd_gstep hT rfl rfl rfl rfl rfl (by intro hg; first | exact ⟨True.intro, True.intro⟩ | exact sg hg) ?_ | refine AWk_gstep hT rfl rfl rfl rfl (by intro hg; first | exact ⟨True.intro, True.intro⟩ | exact sg hg) ?_ | refine AW_seq ?_ | refine AW_region ?_ | refine AW_draw mixed (by kernel_rfl) ?_ | refine AW_block ?_ | refine AW_skip ?_ | refine AW_exit ?_ | refine AW_ret ?_)
    refine ⟨k + 1, by omega, by omega, ⟨.refl _, AV.le.eq ?_, AV.le.eq (by show AV.d (.int .i64 (IntKind.i64.wrap (((k + 1 : Nat) : Int) + 1))) = _; rw [hw2]), trivial⟩, ⟨ObLe.refl _, ⟨rfl, ?_⟩, trivial⟩⟩
    · rw [hsucc, encRes_append, hw1]; rfl
    · rw [hsucc, encRes_append, List.length_append]; rfl
  · have hge : k = 13 := by simp at h1; omega
    subst hge
    repeat (first | refine AWd_step hT rfl rfl rfl (by first | exact True.intro | omega | exact sd) ?_ | refine AWk_step hT rfl rfl (by first | exact True.intro | omega | exact sd) ?_ | refine AWk_step0 hT rfl (by first | exact True.intro | omega | exact sd) ?_ | refine AWd_nil ?_ | refine AWk_nil ?_ | refine AWd_gstep hT rfl rfl rfl rfl rfl (by intro hg; first | exact ⟨True.intro, True.intro⟩ | exact sg hg) ?_ | refine AWk_gstep hT rfl rfl rfl rfl (by intro hg; first | exact ⟨True.intro, True.intro⟩ | exact sg hg) ?_ | refine AW_seq ?_ | refine AW_region ?_ | refine AW_draw mixed (by kernel_rfl) ?_ | refine AW_block ?_ | refine AW_skip ?_ | refine AW_exit ?_ | refine AW_ret ?_)
    refine ret_exact (r := .d (.sl 2 (encRes (resM l 13)))) rfl AV.le.dat rfl rfl rfl rfl ⟨rfl, rfl⟩

/-! conditions -/
def leafM (l : List Int) (a : Nat) : Cond × Nat := (.mk 1 (1 + nextV l a 13) (1 + nextV l (nextA l a) 4) [], nextA l (nextA l a))
def kidsL (f : Nat → Cond × Nat) : Nat → List Cond → Nat → List Cond × Nat
  | 0, acc, a => (acc, a)
  | n + 1, acc, a => kidsL f n (acc ++ [(f a).1]) (f a).2
def kindM (k nt : Int) : Int := if (if k = 4 then 4 else 3) = nt then 7 - (if k = 4 then 4 else 3) else if k = 4 then 4 else 3
def condM (l : List Int) : Nat → Int → Nat → Cond × Nat
  | 0, _, a => leafM l (nextA l a)
  | d + 1, nt, a =>
    if nextV l a 5 < 2 ∨ l.length - nextA l a = 0 then leafM l (nextA l a)
    else if nextV l a 5 = 2 then (.mk 2 0 0 [(condM l d 0 (nextA l a)).1], (condM l d 0 (nextA l a)).2)
    else
      let r := kidsL (condM l d (kindM (nextV l a 5) nt)) (2 + nextV l (nextA l a) 2).toNat [] (nextA l (nextA l a))
      (.mk (kindM (nextV l a 5) nt) 0 0 r.1, r.2)

def CondOk (l : List Int) (d : Nat) (nt : Int) (p : Cond × Nat) : Prop := p.2 ≤ l.length ∧ validC (d + 1) p.1 = true ∧ smallC p.1 ∧ (nt = 3 ∨ nt = 4 → kindC p.1 ≠ nt)

theorem leafM_ok {l : List Int} {d : Nat} {nt : Int} {a : Nat} (h : a ≤ l.length) : CondOk l d nt (leafM l a) := by
  have h1 := nextV_range (l := l) (a := a) (n := 13) (by omega)
  have h2 := nextV_range (l := l) (a := nextA l a) (n := 4) (by omega)
  refine ⟨nextA_le (nextA_le h), ?_, by simp [leafM, smallC, smallCs], fun hn => by simp [leafM, kindC]; omega⟩
  simp [leafM, validC]; omega

theorem kidsL_ok {l : List Int} {d : Nat} {nt : Int} {f : Nat → Cond × Nat} (hf : ∀ a, a ≤ l.length → CondOk l d nt (f a)) : ∀ (n : Nat) (acc : List Cond) (a : Nat), a ≤ l.length → (∀ c, c ∈ acc → validC (d + 1) c = true ∧ smallC c ∧ (nt = 3 ∨ nt = 4 → kindC c ≠ nt)) →
    (kidsL f n acc a).2 ≤ l.length ∧ (∀ c, c ∈ (kidsL f n acc a).1 → validC (d + 1) c = true ∧ smallC c ∧ (nt = 3 ∨ nt = 4 → kindC c ≠ nt)) ∧ (kidsL f n acc a).1.length = acc.length + n
  | 0, acc, a, h, hacc => ⟨h, hacc, rfl⟩
  | n + 1, acc, a, h, hacc => by
    have h1 := hf a h
    have := kidsL_ok hf n (acc ++ [(f a).1]) (f a).2 h1.1 (fun c hc => by
      rcases List.mem_append.1 hc with hc | hc
      · exact hacc c hc
      · simp at hc; subst hc; exact h1.2)
    rw [kidsL]
    refine ⟨this.1, this.2.1, ?_⟩
    rw [this.2.2]; simp; omega

theorem kindM_cases (k nt : Int) : (kindM k nt = 3 ∨ kindM k nt = 4) ∧ (nt = 3 ∨ nt = 4 → kindM k nt ≠ nt) := by
  unfold kindM
  constructor
  · split <;> split <;> omega
  · intro h; split <;> split <;> omega

theorem smallCs_of : ∀ {l : List Cond}, (∀ c, c ∈ l → smallC c) → smallCs l
  | [], _ => trivial
  | a :: l, h => ⟨h a (by simp), smallCs_of fun c hc => h c (by simp [hc])⟩

theorem condM_ok (l : List Int) : ∀ (d : Nat) (nt : Int) (a : Nat), a ≤ l.length → CondOk l d nt (condM l d nt a)
  | 0, nt, a, h => leafM_ok (nextA_le h)
  | d + 1, nt, a, h => by
    have h1 := nextA_le h
    rw [condM]
    split
    · exact leafM_ok h1
    · split
      · have ih := condM_ok l d 0 _ h1
        refine ⟨ih.1, ?_, ⟨by simp, ih.2.2.1, trivial⟩, fun hn => by simp [kindC]; omega⟩
        simp [validC, ih.2.1]
      · have hk := kindM_cases (nextV l a 5) nt
        have hr := nextV_range (l := l) (a := nextA l a) (n := 2) (by omega)
        have ih := kidsL_ok (f := condM l d (kindM (nextV l a 5) nt)) (fun a ha => condM_ok l d _ a ha) (2 + nextV l (nextA l a) 2).toNat [] _ (nextA_le h1) (fun c hc => by cases hc)
        generalize kindM (nextV l a 5) nt = kind at hk ih ⊢
        generalize hm : (2 + nextV l (nextA l a) 2).toNat = m at ih ⊢
        generalize kidsL (condM l d kind) m [] (nextA l (nextA l a)) = r at ih ⊢
        obtain ⟨kids, a'⟩ := r
        obtain ⟨i1, i2, i3⟩ := ih
        simp only [List.length_nil] at i1 i2 i3
        have hk34 : kind = 3 ∨ kind = 4 := hk.1
        refine ⟨i1, ?_, ⟨by simp only; omega, smallCs_of fun c hc => (i2 c hc).2.1⟩, fun hn => hk.2 hn⟩
        have e1 : (kids.any fun x => kindC x == kind) = false := by
          rw [List.any_eq_false]
          intro x hx
          have := (i2 x hx).2.2 hk34
          simpa using this
        have e2 : (kids.any fun x => !validC (d + 1) x) = false := by
          rw [List.any_eq_false]
          intro x hx
          simp [(i2 x hx).1]
        show validC (d + 1 + 1) (.mk kind 0 0 kids) = true
        rw [validC, if_neg (by omega), if_neg (by simp), if_neg (by omega), if_pos hk34, e1, e2]
        simp; omega

theorem condM_wide (l : List Int) (d : Nat) (nt : Int) (a : Nat) (h : a ≤ l.length) : (condM l d nt a).2 ≤ l.length := (condM_ok l d nt a h).1

set_option maxHeartbeats 8000000 in
set_option maxRecDepth 100000 in
theorem Cond_spec (l : List Int) (hl : l.length ≤ 1000000) (d : Nat) : ∀ (nt : Int) (a : Nat), d ≤ 100 → a ≤ l.length →
    Spec Try.prog 14 [.ptr 0 0, .d (.int .i64 ((d + 1 : Nat) : Int)), .d (.int .i64 nt)] [.row (dice l a)] (fun r h' => r = cAV (condM l d nt a).1 ∧ h' = [.row (dice l (condM l d nt a).2)]) := by
  induction d using Nat.strongRecOn with
  | _ d ih =>
  intro nt a hd ha
  have hk := Next_spec l a 5 (by omega) hl ha
  have ha1 := nextA_le ha
  have ha2 := nextA_le ha1
  have hrest := Rest_spec l (nextA l a) hl ha1
  have hkr := nextV_range (l := l) (a := a) (n := 5) (by omega)
  have hc1 := Next_spec l (nextA l a) 13 (by omega) hl ha1
  have hc2 := Next_spec l (nextA l (nextA l a)) 4 (by omega) hl ha2
  have hr1 := nextV_range (l := l) (a := nextA l a) (n := 13) (by omega)
  have hr2 := nextV_range (l := l) (a := nextA l (nextA l a)) (n := 4) (by omega)
  have hc3 := Next_spec l (nextA l a) 2 (by omega) hl ha1
  have hr3 := nextV_range (l := l) (a := nextA l a) (n := 2) (by omega)
  refine Spec_of_body hT Try.func14 rfl rfl rfl rfl ?_
  intro E hE
  repeat (first | refine AWd_step hT rfl rfl rfl (by first | exact True.intro | omega | exact sd) ?_ | refine AWk_step hT rfl rfl (by first | exact True.intro | omega | exact sd) ?_ | refine AWk_step0 hT rfl (by first | exact True.intro | omega | exact sd) ?_ | refine AWd_nil ?_ | refine AWk_nil ?_ | refine AWd_gstep hT rfl rfl rfl rfl rfl (by intro hg; first | exact ⟨True.intro, True.intro⟩ | exact sg hg) ?_ | refine AWk_gstep hT rfl rfl rfl rfl (by intro hg; first | exact ⟨True.intro, True.intro⟩ | exact sg hg) ?_ | refine AW_seq ?_ | refine AW_region ?_ | refine AW_draw mixed (by kernel_rfl) ?_ | refine AW_block ?_ | refine AW_skip ?_ | refine AW_exit ?_ | refine AW_ret ?_)
  refine AWk_op (callS1 rfl rfl hk [0] (by decide) rfl rfl rfl rfl rfl rfl rfl) rfl ?_
  repeat (first | refine AWd_step hT rfl rfl rfl (by first | exact True.intro | omega | exact sd) ?_ | refine AWk_step hT rfl rfl (by first | exact True.intro | omega | exact sd) ?_ | refine AWk_step0 hT rfl (by first | exact True.intro | omega | exact sd) ?_ | refine AWd_nil ?_ | refine AWk_nil ?_ | refine AWd_gstep hT rfl rfl rfl rfl rfl (by intro hg; first | exact ⟨True.intro, True.intro⟩ | exact sg hg) ?_ | refine AWk_gstep hT rfl rfl rfl rfl (by intro hg; first | exact ⟨True.intro, True.intro⟩ | exact sg hg) ?_ | refine AW_seq ?_ | refine AW_region ?_ | refine AW_draw mixed (by kernel_rfl) ?_ | refine AW_block ?_ | refine AW_skip ?_ | refine AW_exit ?_ | refine AW_ret ?_)
  refine AWk_gop rfl rfl rfl (fun hg => ⟨by first | exact True.intro | exact ⟨hg, True.intro⟩ | exact ⟨hg, hg, True.intro⟩, callS1 rfl rfl hrest [0] (by decide) rfl rfl rfl rfl rfl rfl rfl⟩) ?_
  repeat (first | refine AWd_step hT rfl rfl rfl (by first | exact True.intro | omega | exact sd) ?_ | refine AWk_step hT rfl rfl (by first | exact True.intro | omega | exact sd) ?_ | refine AWk_step0 hT rfl (by first | exact True.intro | omega | exact sd) ?_ | refine AWd_nil ?_ | refine AWk_nil ?_ | refine AWd_gstep hT rfl rfl rfl rfl rfl (by intro hg; first | exact ⟨True.intro, True.intro⟩ | exact sg hg) ?_ | refine AWk_gstep hT rfl rfl rfl rfl (by intro hg; first | exact ⟨True.intro, True.intro⟩ | exact sg hg) ?_ | refine AW_seq ?_ | refine AW_region ?_ | refine AW_draw mixed (by kernel_rfl) ?_ | refine AW_block ?_ | refine AW_skip ?_ | refine AW_exit ?_ | refine AW_ret ?_)
  refine AW_condL rfl (fun h1 => ?_) (fun h1 => ?_)
  · have hm : condM l d nt a = leafM l (nextA l a) := by
      cases d with
      | zero => rfl
      | succ d =>
        rw [condM, if_pos]
        simp at h1; omega
    rw [hm]
    unfold leafM
    generalize nextV l (nextA l a) 13 = x1 at hc1 hr1
    generalize nextV l (nextA l (nextA l a)) 4 = x2 at hc2 hr2
    have hw1 : IntKind.i64.wrap (1 + x1) = 1 + x1 := wrap_id (by omega)
    have hw2 : IntKind.i64.wrap (1 + x2) = 1 + x2 := wrap_id (by omega)
    repeat (first | refine AWd_step hT rfl rfl rfl (by first | exact True.intro | omega | exact sd) ?_ | refine AWk_step hT rfl rfl (by first | exact True.intro | omega | exact sd) ?_ | refine AWk_step0 hT rfl (by first | exact True.intro | omega | exact sd) ?_ | refine AWd_nil ?_ | refine AWk_nil ?_ | refine AWd_gstep hT rfl rfl rfl rfl rfl (by intro hg; first | exact ⟨True.intro, True.intro⟩ | exact sg hg) ?_ | refine AWk_gstep hT rfl rfl rfl rfl (by intro hg; first | exact ⟨True.intro, True.intro⟩ | exact sg hg) ?_ | refine AW_seq ?_ | refine AW_region ?_ | refine AW_draw mixed (by kernel_rfl) ?_ | refine AW_block ?_ | refine AW_skip ?_ | refine AW_exit ?_ | refine AW_ret ?_)
    refine AWk_op (callS1 rfl rfl hc1 [0] (by decide) rfl rfl rfl rfl rfl rfl rfl) rfl ?_
    repeat (first | refine AWd_step hT rfl rfl rfl (by first | exact True.intro | omega | exact sd) ?_ | refine AWk_step hT rfl rfl (by first | exact True.intro | omega | exact sd) ?_ | refine AWk_step0 hT rfl (by first | exact True.intro | omega | exact sd) ?_ | refine AWd_nil ?_ | refine AWk_nil ?_ | refine AWd_gstep hT rfl rfl rfl rfl rfl (by intro hg; first | exact ⟨True.intro, True.intro⟩ | exact sg hg) ?_ | refine AWk_gstep hT rfl rfl rfl rfl (by intro hg; first | exact ⟨True.intro, True.intro⟩ | exact sg hg) ?_ | refine AW_seq ?_ | refine AW_region ?_ | refine AW_draw mixed (by kernel_rfl) ?_ | refine AW_block ?_ | refine AW_skip ?_ | refine AW_exit ?_ | refine AW_ret ?_)
    refine AWk_op (callS1 rfl rfl hc2 [0] (by decide) rfl rfl rfl rfl rfl rfl rfl) rfl ?_
    repeat (first | refine AWd_step hT rfl rfl rfl (by first | exact True.intro | omega | exact sd) ?_ | refine AWk_step hT rfl rfl (by first | exact True.intro | omega | exact sd) ?_ | refine AWk_step0 hT rfl (by first | exact True.intro | omega | exact sd) ?_ | refine AWd_nil ?_ | refine AWk_nil ?_ | refine AWd_gstep hT rfl rfl rfl rfl rfl (by intro hg; first | exact ⟨True.intro, True.intro⟩ | exact sg hg) ?_ | refine AWk_gstep hT rfl rfl rfl rfl (by intro hg; first | exact ⟨True.intro, True.intro⟩ | exact sg hg) ?_ | refine AW_seq ?_ | refine AW_region ?_ | refine AW_draw mixed (by kernel_rfl) ?_ | refine AW_block ?_ | refine AW_skip ?_ | refine AW_exit ?_ | refine AW_ret ?_)
    refine ret_exact (r := cAV (.mk 1 (1 + x1) (1 + x2) [])) rfl (AV.le.agg ⟨.refl _, AV.le.eq (by rw [hw1]), AV.le.eq (by rw [hw2]), AV.le.dat, trivial⟩) rfl rfl rfl rfl ⟨rfl, rfl⟩
  · obtain ⟨d, rfl⟩ : ∃ d', d = d' + 1 := ⟨d - 1, by simp at h1; omega⟩
    have hnl : ¬ (nextV l a 5 < 2 ∨ l.length - nextA l a = 0) := by simp at h1; omega
    have hwd : IntKind.i64.wrap (((d + 1 + 1 : Nat) : Int) - 1) = ((d + 1 : Nat) : Int) := by rw [wrap_id (by omega)]; omega
    rw [condM, if_neg hnl]
    generalize nextV l a 5 = k at hkr hk
    repeat (first | refine AWd_step hT rfl rfl rfl (by first | exact True.intro | omega | exact sd) ?_ | refine AWk_step hT rfl rfl (by first | exact True.intro | omega | exact sd) ?_ | refine AWk_step0 hT rfl (by first | exact True.intro | omega | exact sd) ?_ | refine AWd_nil ?_ | refine AWk_nil ?_ | refine AWd_gstep hT rfl rfl rfl rfl rfl (by intro hg; first | exact ⟨True.intro, True.intro⟩ | exact sg hg) ?_ | refine AWk_gstep hT rfl rfl rfl rfl (by intro hg; first | exact ⟨True.intro, True.intro⟩ | exact sg hg) ?_ | refine AW_seq ?_ | refine AW_region ?_ | refine AW_draw mixed (by kernel_rfl) ?_ | refine AW_block ?_ | refine AW_skip ?_ | refine AW_exit ?_ | refine AW_ret ?_)
    refine AW_condL rfl (fun h2 => ?_) (fun h2 => ?_)
    · have h2' : k = 2 := by simpa using h2
      rw [if_pos h2']
      have hi := ih d (by omega) 0 (nextA l a) (by omega) ha1
      generalize condM l d 0 (nextA l a) = p at hi
      obtain ⟨⟨ck, cc, cv, kids⟩, a'⟩ := p
      simp only at hi ⊢
      rw [← hwd] at hi
      repeat (first | refine AWd_step hT rfl rfl rfl (by first | exact True.intro | omega | exact sd) ?_ | refine AWk_step hT rfl rfl (by first | exact True.intro | omega | exact sd) ?_ | refine AWk_step0 hT rfl (by first | exact True.intro | omega | exact sd) ?_ | refine AWd_nil ?_ | refine AWk_nil ?_ | refine AWd_gstep hT rfl rfl rfl rfl rfl (by intro hg; first | exact ⟨True.intro, True.intro⟩ | exact sg hg) ?_ | refine AWk_gstep hT rfl rfl rfl rfl (by intro hg; first | exact ⟨True.intro, True.intro⟩ | exact sg hg) ?_ | refine AW_seq ?_ | refine AW_region ?_ | refine AW_draw mixed (by kernel_rfl) ?_ | refine AW_block ?_ | refine AW_skip ?_ | refine AW_exit ?_ | refine AW_ret ?_)
      refine AWk_op (callS1 rfl rfl hi [0] (by decide) rfl rfl rfl rfl rfl (ren_cAV _ _) rfl) rfl ?_
      repeat (first | refine AWd_step hT rfl rfl rfl (by first | exact True.intro | omega | exact sd) ?_ | refine AWk_step hT rfl rfl (by first | exact True.intro | omega | exact sd) ?_ | refine AWk_step0 hT rfl (by first | exact True.intro | omega | exact sd) ?_ | refine AWd_nil ?_ | refine AWk_nil ?_ | refine AWd_gstep hT rfl rfl rfl rfl rfl (by intro hg; first | exact ⟨True.intro, True.intro⟩ | exact sg hg) ?_ | refine AWk_gstep hT rfl rfl rfl rfl (by intro hg; first | exact ⟨True.intro, True.intro⟩ | exact sg hg) ?_ | refine AW_seq ?_ | refine AW_region ?_ | refine AW_draw mixed (by kernel_rfl) ?_ | refine AW_block ?_ | refine AW_skip ?_ | refine AW_exit ?_ | refine AW_ret ?_)
      refine ret_exact (r := cAV (.mk 2 0 0 [.mk ck cc cv kids])) rfl (AV.le.agg ⟨.refl _, .refl _, .refl _, AV.le.dat, trivial⟩) rfl rfl rfl rfl ⟨rfl, rfl⟩
    · have h2' : ¬ k = 2 := by simpa using h2
      rw [if_neg h2']
      simp only
      repeat (first | refine AW_exit ?_ | refine AW_skip ?_)
      refine AW_seq (AW_region ?_)
      repeat (first | refine AWd_step hT rfl rfl rfl (by first | exact True.intro | omega | exact sd) ?_ | refine AWk_step hT rfl rfl (by first | exact True.intro | omega | exact sd) ?_ | refine AWk_step0 hT rfl (by first | exact True.intro | omega | exact sd) ?_ | refine AWd_nil ?_ | refine AWk_nil ?_ | refine AWd_gstep hT rfl rfl rfl rfl rfl (by intro hg; first | exact ⟨True.intro, True.intro⟩ | exact sg hg) ?_ | refine AWk_gstep hT rfl rfl rfl rfl (by intro hg; first | exact ⟨True.intro, True.intro⟩ | exact sg hg) ?_)
      refine AW_seq_cut (ι := Unit) (fun _ => [(0, .ptr 0 0), (1, .d (.int .i64 ((d + 1 + 1 : Nat) : Int))), (2, .d (.int .i64 nt)), (6, .ptr 1 0), (8, .d (.int .i64 (if k = 4 then 4 else 3)))])
        (fun _ => [.row (dice l (nextA l a)), .row [.d (.int .i64 0), .d (.int .i64 0), .d (.int .i64 0), .sl 4 [] .full]]) (fun _ => True) ?_ (fun _ _ => ?_)
      · repeat (first | refine AWd_step hT rfl rfl rfl (by first | exact True.intro | omega | exact sd) ?_ | refine AWk_step hT rfl rfl (by first | exact True.intro | omega | exact sd) ?_ | refine AWk_step0 hT rfl (by first | exact True.intro | omega | exact sd) ?_ | refine AWd_nil ?_ | refine AWk_nil ?_ | refine AWd_gstep hT rfl rfl rfl rfl rfl (by intro hg; first | exact ⟨True.intro, True.intro⟩ | exact sg hg) ?_ | refine AWk_gstep hT rfl rfl rfl rfl (by intro hg; first | exact ⟨True.intro, True.intro⟩ | exact sg hg) ?_ | refine AW_seq ?_ | refine AW_region ?_ | refine AW_draw mixed (by kernel_rfl) ?_ | refine AW_block ?_ | refine AW_skip ?_ | refine AW_exit ?_ | refine AW_ret ?_)
        refine AW_condL rfl (fun h3 => ?_) (fun h3 => ?_)
        · have h3' : k = 4 := by simpa using h3
          repeat (first | refine AWd_step hT rfl rfl rfl (by first | exact True.intro | omega | exact sd) ?_ | refine AWk_step hT rfl rfl (by first | exact True.intro | omega | exact sd) ?_ | refine AWk_step0 hT rfl (by first | exact True.intro | omega | exact sd) ?_ | refine AWd_nil ?_ | refine AWk_nil ?_ | refine AWd_gstep hT rfl rfl rfl rfl rfl (by intro hg; first | exact ⟨True.intro, True.intro⟩ | exact sg hg) ?_ | refine AWk_gstep hT rfl rfl rfl rfl (by intro hg; first | exact ⟨True.intro, True.intro⟩ | exact sg hg) ?_ | refine AW_seq ?_ | refine AW_region ?_ | refine AW_draw mixed (by kernel_rfl) ?_ | refine AW_block ?_ | refine AW_skip ?_ | refine AW_exit ?_ | refine AW_ret ?_)
          exact ⟨(), trivial, ⟨.refl _, .refl _, .refl _, .refl _, AV.le.eq (by rw [if_pos h3']; rfl), trivial⟩, HLe.refl _⟩
        · have h3' : ¬ k = 4 := by simpa using h3
          repeat (first | refine AWd_step hT rfl rfl rfl (by first | exact True.intro | omega | exact sd) ?_ | refine AWk_step hT rfl rfl (by first | exact True.intro | omega | exact sd) ?_ | refine AWk_step0 hT rfl (by first | exact True.intro | omega | exact sd) ?_ | refine AWd_nil ?_ | refine AWk_nil ?_ | refine AWd_gstep hT rfl rfl rfl rfl rfl (by intro hg; first | exact ⟨True.intro, True.intro⟩ | exact sg hg) ?_ | refine AWk_gstep hT rfl rfl rfl rfl (by intro hg; first | exact ⟨True.intro, True.intro⟩ | exact sg hg) ?_ | refine AW_seq ?_ | refine AW_region ?_ | refine AW_draw mixed (by kernel_rfl) ?_ | refine AW_block ?_ | refine AW_skip ?_ | refine AW_exit ?_ | refine AW_ret ?_)
          exact ⟨(), trivial, ⟨.refl _, .refl _, .refl _, .refl _, AV.le.eq (by rw [if_neg h3']; rfl), trivial⟩, HLe.refl _⟩
      generalize hk0 : (if k = 4 then (4 : Int) else 3) = k0
      have hk0r : k0 = 3 ∨ k0 = 4 := by rw [← hk0]; split <;> omega
      have hkm : kindM k nt = if k0 = nt then 7 - k0 else k0 := by unfold kindM; rw [hk0]
      refine AW_seq_cut (ι := Unit) (fun _ => [(0, .ptr 0 0), (1, .d (.int .i64 ((d + 1 + 1 : Nat) : Int))), (6, .ptr 1 0), (8, .d (.int .i64 (kindM k nt)))])
        (fun _ => [.row (dice l (nextA l a)), .row [.d (.int .i64 0), .d (.int .i64 0), .d (.int .i64 0), .sl 4 [] .full]]) (fun _ => True) ?_ (fun _ _ => ?_)
      · repeat (first | refine AWd_step hT rfl rfl rfl (by first | exact True.intro | omega | exact sd) ?_ | refine AWk_step hT rfl rfl (by first | exact True.intro | omega | exact sd) ?_ | refine AWk_step0 hT rfl (by first | exact True.intro | omega | exact sd) ?_ | refine AWd_nil ?_ | refine AWk_nil ?_ | refine AWd_gstep hT rfl rfl rfl rfl rfl (by intro hg; first | exact ⟨True.intro, True.intro⟩ | exact sg hg) ?_ | refine AWk_gstep hT rfl rfl rfl rfl (by intro hg; first | exact ⟨True.intro, True.intro⟩ | exact sg hg) ?_ | refine AW_seq ?_ | refine AW_region ?_ | refine AW_draw mixed (by kernel_rfl) ?_ | refine AW_block ?_ | refine AW_skip ?_ | refine AW_exit ?_ | refine AW_ret ?_)
        refine AW_condL rfl (fun h3 => ?_) (fun h3 => ?_)
        · have h3' : k0 = nt := by simpa using h3
          have hw3 : IntKind.i64.wrap (7 - k0) = 7 - k0 := wrap_id (by omega)
          repeat (first | refine AWd_step hT rfl rfl rfl (by first | exact True.intro | omega | exact sd) ?_ | refine AWk_step hT rfl rfl (by first | exact True.intro | omega | exact sd) ?_ | refine AWk_step0 hT rfl (by first | exact True.intro | omega | exact sd) ?_ | refine AWd_nil ?_ | refine AWk_nil ?_ | refine AWd_gstep hT rfl rfl rfl rfl rfl (by intro hg; first | exact ⟨True.intro, True.intro⟩ | exact sg hg) ?_ | refine AWk_gstep hT rfl rfl rfl rfl (by intro hg; first | exact ⟨True.intro, True.intro⟩ | exact sg hg) ?_ | refine AW_seq ?_ | refine AW_region ?_ | refine AW_draw mixed (by kernel_rfl) ?_ | refine AW_block ?_ | refine AW_skip ?_ | refine AW_exit ?_ | refine AW_ret ?_)
          exact ⟨(), trivial, ⟨.refl _, .refl _, .refl _, AV.le.eq (by rw [hkm, if_pos h3']; show AV.d (.int .i64 (IntKind.i64.wrap (7 - k0))) = _; rw [hw3]), trivial⟩, HLe.refl _⟩
        · have h3' : ¬ k0 = nt := by simpa using h3
          repeat (first | refine AWd_step hT rfl rfl rfl (by first | exact True.intro | omega | exact sd) ?_ | refine AWk_step hT rfl rfl (by first | exact True.intro | omega | exact sd) ?_ | refine AWk_step0 hT rfl (by first | exact True.intro | omega | exact sd) ?_ | refine AWd_nil ?_ | refine AWk_nil ?_ | refine AWd_gstep hT rfl rfl rfl rfl rfl (by intro hg; first | exact ⟨True.intro, True.intro⟩ | exact sg hg) ?_ | refine AWk_gstep hT rfl rfl rfl rfl (by intro hg; first | exact ⟨True.intro, True.intro⟩ | exact sg hg) ?_ | refine AW_seq ?_ | refine AW_region ?_ | refine AW_draw mixed (by kernel_rfl) ?_ | refine AW_block ?_ | refine AW_skip ?_ | refine AW_exit ?_ | refine AW_ret ?_)
          exact ⟨(), trivial, ⟨.refl _, .refl _, .refl _, AV.le.eq (by rw [hkm, if_neg h3']; rfl), trivial⟩, HLe.refl _⟩
      generalize kindM k nt = kind
      have hf := kidsL_ok (fun a ha => condM_ok l d kind a ha)
      have hi := ih d (by omega) kind
      generalize condM l d kind = f at hf hi
      generalize hx : nextV l (nextA l a) 2 = x at hr3 hc3
      have hwx : IntKind.i64.wrap (2 + x) = (((2 + x).toNat : Nat) : Int) := by rw [wrap_id (by omega)]; omega
      have hm3 : (2 + x).toNat ≤ 3 := by omega
      generalize (2 + x).toNat = m0 at hwx hm3
      generalize hfin : kidsL f m0 [] (nextA l (nextA l a)) = fin
      repeat (first | refine AWd_step hT rfl rfl rfl (by first | exact True.intro | omega | exact sd) ?_ | refine AWk_step hT rfl rfl (by first | exact True.intro | omega | exact sd) ?_ | refine AWk_step0 hT rfl (by first | exact True.intro | omega | exact sd) ?_ | refine AWd_nil ?_ | refine AWk_nil ?_ | refine AWd_gstep hT rfl rfl rfl rfl rfl (by intro hg; first | exact ⟨True.intro, True.intro⟩ | exact sg hg) ?_ | refine AWk_gstep hT rfl rfl rfl rfl (by intro hg; first | exact ⟨True.intro, True.intro⟩ | exact sg hg) ?_ | refine AW_seq ?_ | refine AW_region ?_ | refine AW_draw mixed (by kernel_rfl) ?_ | refine AW_block ?_ | refine AW_skip ?_ | refine AW_exit ?_ | refine AW_ret ?_)
      refine AWk_op (callS1 rfl rfl hc3 [0] (by decide) rfl rfl rfl rfl rfl rfl rfl) rfl ?_
      repeat (first | refine AWd_step hT rfl rfl rfl (by first | exact True.intro | omega | exact sd) ?_ | refine AWk_step hT rfl rfl (by first | exact True.intro | omega | exact sd) ?_ | refine AWk_step0 hT rfl (by first | exact True.intro | omega | exact sd) ?_ | refine AWd_nil ?_ | refine AWk_nil ?_ | refine AWd_gstep hT rfl rfl rfl rfl rfl (by intro hg; first | exact ⟨True.intro, True.intro⟩ | exact sg hg) ?_ | refine AWk_gstep hT rfl rfl rfl rfl (by intro hg; first | exact ⟨True.intro, True.intro⟩ | exact sg hg) ?_ | refine AW_seq ?_ | refine AW_region ?_ | refine AW_draw mixed (by kernel_rfl) ?_ | refine AW_block ?_ | refine AW_skip ?_ | refine AW_exit ?_ | refine AW_ret ?_)
      refine AW_room (AW_acquireH 2 3 3 4 rfl rfl rfl ?_)
      refine AW_loopL (ι := List Cond × Nat × Nat) (fun x => [(0, .ptr 0 0), (1, .d (.int .i64 ((d + 1 + 1 : Nat) : Int))), (6, .ptr 1 0), (8, .d (.int .i64 kind)), (9, .ptr 2 0), (10, .d (.int .i64 (x.2.2 : Int)))])
        (fun x => [.row (dice l x.2.1), .row [.d (.int .i64 0), .d (.int .i64 0), .d (.int .i64 0), .sl 4 [] .full], .row [.d (.int .i64 kind), .d (.int .i64 0), .d (.int .i64 0), .sl 4 (encCs x.1) (.right 3)], .right 4 (encCs x.1).length])
        (fun x => x.2.1 ≤ l.length ∧ x.1.length + x.2.2 ≤ 3 ∧ kidsL f x.2.2 x.1 x.2.1 = fin) (fun x => x.2.2) ([], nextA l (nextA l a), m0) ⟨ha2, by simpa using hm3, hfin⟩
        ⟨.refl _, .refl _, .refl _, .refl _, .refl _, AV.le.eq (by show AV.d (.int .i64 (IntKind.i64.wrap (2 + x))) = _; rw [hwx]), trivial⟩ (HLe.refl _) ?_
      rintro ⟨acc, b, m⟩ ⟨j1, j2, j3⟩
      simp only at j1 j2 j3 ⊢
      have hlen := encCs_length acc
      repeat (first | refine AWd_step hT rfl rfl rfl (by first | exact True.intro | omega | exact sd) ?_ | refine AWk_step hT rfl rfl (by first | exact True.intro | omega | exact sd) ?_ | refine AWk_step0 hT rfl (by first | exact True.intro | omega | exact sd) ?_ | refine AWd_nil ?_ | refine AWk_nil ?_ | refine AWd_gstep hT rfl rfl rfl rfl rfl (by intro hg; first | exact ⟨True.intro, True.intro⟩ | exact sg hg) ?_ | refine AWk_gstep hT rfl rfl rfl rfl (by intro hg; first | exact ⟨True.intro, True.intro⟩ | exact sg hg) ?_ | refine AW_seq ?_ | refine AW_region ?_ | refine AW_draw mixed (by kernel_rfl) ?_ | refine AW_block ?_ | refine AW_skip ?_ | refine AW_exit ?_ | refine AW_ret ?_)
      refine AW_condL rfl (fun h3 => ?_) (fun h3 => ?_)
      · obtain ⟨m, rfl⟩ : ∃ m', m = m' + 1 := ⟨m - 1, by simp at h3; omega⟩
        have hwm : IntKind.i64.wrap (((m + 1 : Nat) : Int) - 1) = (m : Int) := by rw [wrap_id (by omega)]; omega
        have hib := hi b (by omega) j1
        have hfb := hf 1 [] b j1 (fun c hc => by cases hc)
        rw [kidsL] at j3 hfb
        generalize f b = p at hib j3 hfb
        obtain ⟨⟨ck, cc, cv, kids⟩, b'⟩ := p
        simp only at hib j3 hfb
        have hb' : b' ≤ l.length := hfb.1
        rw [← hwd] at hib
        repeat (first | refine AWd_step hT rfl rfl rfl (by first | exact True.intro | omega | exact sd) ?_ | refine AWk_step hT rfl rfl (by first | exact True.intro | omega | exact sd) ?_ | refine AWk_step0 hT rfl (by first | exact True.intro | omega | exact sd) ?_ | refine AWd_nil ?_ | refine AWk_nil ?_ | refine AWd_gstep hT rfl rfl rfl rfl rfl (by intro hg; first | exact ⟨True.intro, True.intro⟩ | exact sg hg) ?_ | refine AWk_gstep hT rfl rfl rfl rfl (by intro hg; first | exact ⟨True.intro, True.intro⟩ | exact sg hg) ?_ | refine AW_seq ?_ | refine AW_region ?_ | refine AW_block ?_ | refine AW_skip ?_ | refine AW_exit ?_ | refine AW_ret ?_)
        refine AW_drawG (fun i => bif Nat.beq i 1 || Nat.beq i 10 then [2] else bif Nat.beq i 6 then [0] else bif Nat.beq i 8 then [3] else []) (fun i => bif Nat.beq i 10 then [2] else bif Nat.beq i 6 then [0] else bif Nat.beq i 8 then [3] else []) mixed (by kernel_rfl) ?_
        repeat (first | refine AWg_load hT rfl rfl rfl rfl (by first | exact List.mem_cons_self | exact sm) rfl ?_ | refine AWg_pure hT (fun _ => rfl) rfl rfl (by first | exact True.intro | omega | exact sd) ?_ | refine AWg_store hT rfl rfl rfl (by first | exact List.mem_cons_self | exact sm) rfl ?_ | refine AWd_nil ?_)
        refine AWg_op (v := cAV (.mk ck cc cv kids)) (os := [.row (dice l b')]) (fun hx hk1 hk2 => callS1 rfl rfl hib [0] (by decide) (by show [hx[0]?] = _; rw [hk2 0 List.mem_cons_self]; rfl) rfl rfl rfl rfl (ren_cAV _ _) rfl) rfl ?_
        refine AWg_op (os := []) (fun k hk1 hk2 => buildSl_ok hT rfl rfl) rfl ?_
        refine AWg_op (v := .sl 4 (encCs acc ++ encCs [.mk ck cc cv kids]) (.right 3)) (os := [.right 4 ((encCs acc).length + (encCs [.mk ck cc cv kids]).length)]) (fun hx hk1 hk2 => append_right (i := 3) hT rfl rfl rfl rfl ((hk2 3 List.mem_cons_self).trans rfl) rfl (by show ((encCs acc).length + (encCs [.mk ck cc cv kids]).length) * (48 + 1) ≤ 140737488355328; rw [encCs_length, encCs_length, List.length_singleton]; omega)) rfl ?_
        repeat (first | refine AWg_load hT rfl rfl rfl rfl (by first | exact List.mem_cons_self | exact sm) rfl ?_ | refine AWg_pure hT (fun _ => rfl) rfl rfl (by first | exact True.intro | omega | exact sd) ?_ | refine AWg_store hT rfl rfl rfl (by first | exact List.mem_cons_self | exact sm) rfl ?_ | refine AWd_nil ?_)
        repeat (first | refine AWd_step hT rfl rfl rfl (by first | exact True.intro | omega | exact sd) ?_ | refine AWk_step hT rfl rfl (by first | exact True.intro | omega | exact sd) ?_ | refine AWk_step0 hT rfl (by first | exact True.intro | omega | exact sd) ?_ | refine AWd_nil ?_ | refine AWk_nil ?_ | refine AWd_gstep hT rfl rfl rfl rfl rfl (by intro hg; first | exact ⟨True.intro, True.intro⟩ | exact sg hg) ?_ | refine AWk_gstep hT rfl rfl rfl rfl (by intro hg; first | exact ⟨True.intro, True.intro⟩ | exact sg hg) ?_ | refine AW_seq ?_ | refine AW_region ?_ | refine AW_draw mixed (by kernel_rfl) ?_ | refine AW_block ?_ | refine AW_skip ?_ | refine AW_exit ?_ | refine AW_ret ?_)
        refine ⟨(acc ++ [.mk ck cc cv kids], b', m), ⟨hb', by simp only [List.length_append, List.length_singleton]; omega, j3⟩, by simp only; omega, ⟨.refl _, .refl _, .refl _, .refl _, .refl _, AV.le.eq (by show AV.d (.int .i64 (IntKind.i64.wrap (((m + 1 : Nat) : Int) - 1))) = _; rw [hwm]), trivial⟩, ⟨ObLe.refl _, ObLe.refl _, ⟨.refl _, .refl _, .refl _, AV.le.eq ?_, trivial⟩, ⟨rfl, ?_⟩, trivial⟩⟩
        · rw [encCs_append]
        · rw [encCs_append, List.length_append]
      · have hm0 : m = 0 := by simp at h3; omega
        subst hm0
        rw [kidsL] at j3
        subst j3
        repeat (first | refine AWd_step hT rfl rfl rfl (by first | exact True.intro | omega | exact sd) ?_ | refine AWk_step hT rfl rfl (by first | exact True.intro | omega | exact sd) ?_ | refine AWk_step0 hT rfl (by first | exact True.intro | omega | exact sd) ?_ | refine AWd_nil ?_ | refine AWk_nil ?_ | refine AWd_gstep hT rfl rfl rfl rfl rfl (by intro hg; first | exact ⟨True.intro, True.intro⟩ | exact sg hg) ?_ | refine AWk_gstep hT rfl rfl rfl rfl (by intro hg; first | exact ⟨True.intro, True.intro⟩ | exact sg hg) ?_ | refine AW_seq ?_ | refine AW_region ?_ | refine AW_draw mixed (by kernel_rfl) ?_ | refine AW_block ?_ | refine AW_skip ?_ | refine AW_exit ?_ | refine AW_ret ?_)
        refine ret_exact (r := cAV (.mk kind 0 0 acc)) rfl (AV.le.agg ⟨.refl _, .refl _, .refl _, AV.le.dat, trivial⟩) rfl rfl rfl rfl ⟨rfl, rfl⟩
end Tdoc
