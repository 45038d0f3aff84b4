/- Reverse, and lengths in shortest form. -/
import Derived.Test.YtkkfcpohiofinaaDoorE4
set_option linter.unusedVariables false
set_option linter.unusedSimpArgs false
namespace Tdoc
open Go Go.Proofs

/-- A row whose first i and last i elements have changed places. -/
def revAt (cells : List AV) (i : Nat) : List AV := (List.range cells.length).map fun k => (cells[if k < i ∨ cells.length - i ≤ k then cells.length - 1 - k else k]?).getD .any
theorem revAt_length (cells : List AV) (i : Nat) : (revAt cells i).length = cells.length := by simp [revAt]
theorem revAt_zero (cells : List AV) : revAt cells 0 = cells := by
  apply List.ext_getElem?
  intro k
  by_cases h : k < cells.length
  · simp only [revAt, List.getElem?_map, List.getElem?_range h, Option.map_some]
    rw [if_neg (by omega)]
    simp [h]
  · rw [List.getElem?_eq_none (by rw [revAt_length]; omega), List.getElem?_eq_none (by omega)]
theorem revAt_at {cells : List AV} {i k : Nat} (h : k < cells.length) : (revAt cells i)[k]? = cells[if k < i ∨ cells.length - i ≤ k then cells.length - 1 - k else k]? := by
  simp only [revAt, List.getElem?_map, List.getElem?_range h, Option.map_some]
  have hlt : (if k < i ∨ cells.length - i ≤ k then cells.length - 1 - k else k) < cells.length := by split <;> omega
  rw [List.getElem?_eq_getElem hlt]; rfl
theorem revAt_half {cells : List AV} {i : Nat} (h : cells.length ≤ 2 * i + 1) (hi : 2 * i ≤ cells.length) : revAt cells i = cells.reverse := by
  apply List.ext_getElem?
  intro k
  by_cases hk : k < cells.length
  · rw [revAt_at hk, List.getElem?_reverse hk]
    split
    · rfl
    · congr 1; omega
  · rw [List.getElem?_eq_none (by rw [revAt_length]; omega), List.getElem?_eq_none (by simp; omega)]
theorem revAt_succ {cells : List AV} {i : Nat} (h : 2 * i + 1 < cells.length) {x y : AV} (hx : (revAt cells i)[cells.length - 1 - i]? = some x) (hy : (revAt cells i)[i]? = some y) :
    ((revAt cells i).set i x).set (cells.length - 1 - i) y = revAt cells (i + 1) := by
  rw [revAt_at (by omega), if_neg (by omega)] at hx hy
  apply List.ext_getElem?
  intro k
  by_cases hk : k < cells.length
  · rw [revAt_at hk, List.getElem?_set, List.getElem?_set]
    simp only [List.length_set, revAt_length]
    by_cases h1 : cells.length - 1 - i = k
    · rw [if_pos h1, if_pos (by omega), if_pos (by omega), ← hy]; congr 1; omega
    · rw [if_neg h1]
      by_cases h2 : i = k
      · rw [if_pos h2, if_pos (by omega), if_pos (by omega), ← hx]; congr 1; omega
      · rw [if_neg h2, revAt_at hk]
        congr 1
        by_cases h3 : k < i ∨ cells.length - i ≤ k
        · rw [if_pos h3, if_pos (by omega)]
        · rw [if_neg h3, if_neg (by omega)]
  · rw [List.getElem?_eq_none (by simp [revAt_length]; omega), List.getElem?_eq_none (by rw [revAt_length]; omega)]

theorem lowL_of {k : Nat} : ∀ {l : List AV}, (∀ c, c ∈ l → low k c = true) → lowL k l = true
  | [], _ => rfl
  | a :: l, h => by simp only [lowL, Bool.and_eq_true]; exact ⟨h a (by simp), lowL_of fun c hc => h c (by simp [hc])⟩

set_option maxHeartbeats 4000000 in
set_option maxRecDepth 100000 in
theorem Reverse_spec (cells : List AV) (hl : cells.length ≤ 1000000000) (hsc : ∀ c, c ∈ cells → scalarA c = true) (hlow : ∀ c, c ∈ cells → low 1 c = true) :
    Spec Tryd.prog 60 [.bm 0 cells.length] [.buf 1 cells.length cells] (fun r h' => r = .tup [] ∧ h' = [.buf 1 cells.length cells.reverse]) := by
  refine Spec_of_body hT Tryd.func60 rfl rfl rfl rfl ?_
  intro E hE
  generalize hn : cells.length = n at hl
  have hw1 : IntKind.i64.wrap ((n : Int) - 1) = (n : Int) - 1 := wrap_id (by omega)
  repeat (first | refine AWd_step hT rfl rfl rfl (by first | exact True.intro | omega | exact sd) ?_ | refine AWk_step hT rfl rfl (by first | exact True.intro | omega | exact sd) ?_ | refine AWk_step0 hT rfl (by first | exact True.intro | omega | exact sd) ?_ | refine AWd_nil ?_ | refine AWk_nil ?_ | refine AWd_gstep hT rfl rfl rfl rfl rfl (by intro hg; first | exact ⟨True.intro, True.intro⟩ | exact sg hg) ?_ | refine AWk_gstep hT rfl rfl rfl rfl (by intro hg; first | exact ⟨True.intro, True.intro⟩ | exact sg hg) ?_ | refine AW_seq ?_ | refine AW_region ?_ | refine AW_draw mixed (by kernel_rfl) ?_ | refine AW_block ?_ | refine AW_skip ?_ | refine AW_exit ?_ | refine AW_ret ?_)
  refine AW_loopL (ι := Nat) (fun i => [(0, .bm 0 n), (2, .d (.int .i64 (i : Int))), (3, .d (.int .i64 ((n : Int) - 1 - i)))]) (fun i => [.buf 1 n (revAt cells i)]) (fun i => 2 * i ≤ n + 1 ∧ (2 * i ≤ n ∨ i = 0)) (fun i => n - i) 0 (by omega)
    ⟨.refl _, .refl _, AV.le.eq (by show AV.d (.int .i64 (IntKind.i64.wrap ((n : Int) - 1))) = _; rw [hw1]; simp), trivial⟩ ⟨⟨rfl, rfl, by rw [revAt_zero]; exact AllLe.refl _⟩, trivial⟩ ?_
  intro i ⟨hi, hi2⟩
  have hwr : IntKind.i64.wrap ((i : Int) + 1) = ((i + 1 : Nat) : Int) := by rw [wrap_id (by omega)]; simp
  have hwr2 : IntKind.i64.wrap ((n : Int) - 1 - i - 1) = (n : Int) - 1 - ((i + 1 : Nat) : Int) := by rw [wrap_id (by omega)]; omega
  repeat (first | refine AWd_step hT rfl rfl rfl (by first | exact True.intro | omega | exact sd) ?_ | refine AWk_step hT rfl rfl (by first | exact True.intro | omega | exact sd) ?_ | refine AWk_step0 hT rfl (by first | exact True.intro | omega | exact sd) ?_ | refine AWd_nil ?_ | refine AWk_nil ?_ | refine AWd_gstep hT rfl rfl rfl rfl rfl (by intro hg; first | exact ⟨True.intro, True.intro⟩ | exact sg hg) ?_ | refine AWk_gstep hT rfl rfl rfl rfl (by intro hg; first | exact ⟨True.intro, True.intro⟩ | exact sg hg) ?_ | refine AW_seq ?_ | refine AW_region ?_ | refine AW_draw mixed (by kernel_rfl) ?_ | refine AW_block ?_ | refine AW_skip ?_ | refine AW_exit ?_ | refine AW_ret ?_)
  refine AW_condL rfl (fun h1 => ?_) (fun h1 => ?_)
  · have h1' : (i : Int) < (n : Int) - 1 - i := by simpa using h1
    have hjn : ((n : Int) - 1 - i).toNat = n - 1 - i := by omega
    obtain ⟨x, hx⟩ : ∃ x, (revAt cells i)[n - 1 - i]? = some x := ⟨(revAt cells i)[n - 1 - i]'(by rw [revAt_length]; omega), by simp⟩
    obtain ⟨y, hy⟩ : ∃ y, (revAt cells i)[i]? = some y := ⟨(revAt cells i)[i]'(by rw [revAt_length]; omega), by simp⟩
    have hxs : scalarA x = true := by
      rw [revAt_at (by omega)] at hx; exact hsc x (List.mem_of_getElem? hx)
    have hys : scalarA y = true := by
      rw [revAt_at (by omega)] at hy; exact hsc y (List.mem_of_getElem? hy)
    have hsucc := revAt_succ (cells := cells) (i := i) (by omega) (x := x) (y := y) (by rw [hn]; exact hx) hy
    rw [hn] at hsucc
    have hlr : (revAt cells i).length = n := by rw [revAt_length, hn]
    generalize revAt cells i = rc at hx hy hsucc hlr
    have hlo1 : ((i : Int)).toNat * 1 < rc.length := by rw [Nat.mul_one, Int.toNat_natCast, hlr]; omega
    have hlo2 : ((n : Int) - 1 - i).toNat * 1 < (rc.set (((i : Int)).toNat * 1) x).length := by rw [Nat.mul_one, hjn, List.length_set, hlr]; omega
    repeat (first | refine AWd_step hT rfl rfl rfl (by first | exact True.intro | omega | exact sd) ?_ | refine AWk_step hT rfl rfl (by first | exact True.intro | omega | exact sd) ?_ | refine AWk_step0 hT rfl (by first | exact True.intro | omega | exact sd) ?_ | refine AWd_nil ?_ | refine AWk_nil ?_ | refine AWd_gstep hT rfl rfl rfl rfl rfl (by intro hg; first | exact ⟨True.intro, True.intro⟩ | exact sg hg) ?_ | refine AWk_gstep hT rfl rfl rfl rfl (by intro hg; first | exact ⟨True.intro, True.intro⟩ | exact sg hg) ?_ | refine AW_seq ?_ | refine AW_region ?_ | refine AW_block ?_ | refine AW_skip ?_ | refine AW_exit ?_ | refine AW_ret ?_)
    refine AW_drawG (fun i => bif Nat.beq i 7 || Nat.beq i 11 || Nat.beq i 13 || Nat.beq i 15 then [0] else []) (fun i => bif Nat.beq i 13 || Nat.beq i 15 then [0] else []) mixed (by kernel_rfl) ?_
    repeat (first | refine AWg_load hT rfl rfl rfl rfl (by first | exact List.mem_cons_self | exact sm) rfl ?_ | refine AWg_pure hT (fun _ => rfl) rfl rfl (by first | exact True.intro | omega | exact sd) ?_ | refine AWg_store hT rfl rfl rfl (by first | exact List.mem_cons_self | exact sm) rfl ?_ | refine AWd_nil ?_)
    refine AWg_op (os := []) (fun k hk1 hk2 => OpS_of_pure (bufAddr_ok (sz := 1) hT rfl rfl rfl rfl (by omega))) rfl ?_
    refine AWg_op (v := x) (os := []) (fun k hk1 hk2 => bufLoad_ok hT rfl rfl ((hk2 0 List.mem_cons_self).trans rfl) rfl rfl (by rw [Nat.mul_one, hjn]; exact hx)) rfl ?_
    repeat (first | refine AWg_load hT rfl rfl rfl rfl (by first | exact List.mem_cons_self | exact sm) rfl ?_ | refine AWg_pure hT (fun _ => rfl) rfl rfl (by first | exact True.intro | omega | exact sd) ?_ | refine AWg_store hT rfl rfl rfl (by first | exact List.mem_cons_self | exact sm) rfl ?_ | refine AWd_nil ?_)
    refine AWg_op (os := []) (fun k hk1 hk2 => OpS_of_pure (bufAddr_ok (sz := 1) hT rfl rfl rfl rfl (by omega))) rfl ?_
    refine AWg_op (v := y) (os := []) (fun k hk1 hk2 => bufLoad_ok hT rfl rfl ((hk2 0 List.mem_cons_self).trans rfl) rfl rfl (by rw [Nat.mul_one, Int.toNat_natCast]; exact hy)) rfl ?_
    refine AWg_op (os := []) (fun k hk1 hk2 => OpS_of_pure (bufAddr_ok (sz := 1) hT rfl rfl rfl rfl (by omega))) rfl ?_
    refine AWg_op (v := .any) (os := [.buf 1 n (rc.set (((i : Int)).toNat * 1) x)]) (fun k hk1 hk2 => bufStoreE hT rfl rfl rfl ((hk2 0 List.mem_cons_self).trans rfl) rfl rfl hxs hlo1 rfl) rfl ?_
    refine AWg_op (os := []) (fun k hk1 hk2 => OpS_of_pure (bufAddr_ok (sz := 1) hT rfl rfl rfl rfl (by omega))) rfl ?_
    refine AWg_op (v := .any) (os := [.buf 1 n ((rc.set (((i : Int)).toNat * 1) x).set (((n : Int) - 1 - i).toNat * 1) y)]) (fun k hk1 hk2 => bufStoreE hT rfl rfl rfl ((hk2 0 List.mem_cons_self).trans rfl) rfl rfl hys hlo2 rfl) rfl ?_
    have e : (rc.set (((i : Int)).toNat * 1) x).set (((n : Int) - 1 - i).toNat * 1) y = revAt cells (i + 1) := by rw [Nat.mul_one, Nat.mul_one, hjn, Int.toNat_natCast]; exact hsucc
    repeat (first | refine AWg_load hT rfl rfl rfl rfl (by first | exact List.mem_cons_self | exact sm) rfl ?_ | refine AWg_pure hT (fun _ => rfl) rfl rfl (by first | exact True.intro | omega | exact sd) ?_ | refine AWg_store hT rfl rfl rfl (by first | exact List.mem_cons_self | exact sm) rfl ?_ | refine AWd_nil ?_)
    repeat (first | refine AWd_step hT rfl rfl rfl (by first | exact True.intro | omega | exact sd) ?_ | refine AWk_step hT rfl rfl (by first | exact True.intro | omega | exact sd) ?_ | refine AWk_step0 hT rfl (by first | exact True.intro | omega | exact sd) ?_ | refine AWd_nil ?_ | refine AWk_nil ?_ | refine AWd_gstep hT rfl rfl rfl rfl rfl (by intro hg; first | exact ⟨True.intro, True.intro⟩ | exact sg hg) ?_ | refine AWk_gstep hT rfl rfl rfl rfl (by intro hg; first | exact ⟨True.intro, True.intro⟩ | exact sg hg) ?_ | refine AW_seq ?_ | refine AW_region ?_ | refine AW_draw mixed (by kernel_rfl) ?_ | refine AW_block ?_ | refine AW_skip ?_ | refine AW_exit ?_ | refine AW_ret ?_)
    exact ⟨i + 1, by omega, by omega, ⟨.refl _, AV.le.eq (by show AV.d (.int .i64 (IntKind.i64.wrap ((i : Int) + 1))) = _; rw [hwr]), AV.le.eq (by show AV.d (.int .i64 (IntKind.i64.wrap ((n : Int) - 1 - i - 1))) = _; rw [hwr2]), trivial⟩, ⟨⟨rfl, rfl, e ▸ AllLe.refl _⟩, trivial⟩⟩
  · have h1' : ¬ (i : Int) < (n : Int) - 1 - i := by simpa using h1
    have hfin : revAt cells i = cells.reverse := by
      rcases hi2 with h | h
      · exact revAt_half (by omega) (by omega)
      · subst h
        rw [revAt_zero]
        have hn1 : cells.length ≤ 1 := by omega
        match cells, hn1 with
        | [], _ => rfl
        | [a], _ => rfl
    rw [hfin]
    repeat (first | refine AWd_step hT rfl rfl rfl (by first | exact True.intro | omega | exact sd) ?_ | refine AWk_step hT rfl rfl (by first | exact True.intro | omega | exact sd) ?_ | refine AWk_step0 hT rfl (by first | exact True.intro | omega | exact sd) ?_ | refine AWd_nil ?_ | refine AWk_nil ?_ | refine AWd_gstep hT rfl rfl rfl rfl rfl (by intro hg; first | exact ⟨True.intro, True.intro⟩ | exact sg hg) ?_ | refine AWk_gstep hT rfl rfl rfl rfl (by intro hg; first | exact ⟨True.intro, True.intro⟩ | exact sg hg) ?_ | refine AW_seq ?_ | refine AW_region ?_ | refine AW_draw mixed (by kernel_rfl) ?_ | refine AW_block ?_ | refine AW_skip ?_ | refine AW_exit ?_ | refine AW_ret ?_)
    exact ret_exactN rfl (.refl _) rfl rfl rfl (by show (lowL 1 cells.reverse && true) = true; rw [Bool.and_true]; exact lowL_of fun c hc => hlow c (List.mem_reverse.1 hc)) ⟨rfl, rfl⟩
end Tdoc
