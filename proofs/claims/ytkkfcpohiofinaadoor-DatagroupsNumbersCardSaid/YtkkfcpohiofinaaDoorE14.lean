/- The reader of objects: lists of objects, up to an end or an end mark. -/
import Derived.Test.YtkkfcpohiofinaaDoorE13
set_option linter.unusedVariables false
set_option linter.unusedSimpArgs false
namespace Tdoc
open Go Go.Proofs

abbrev Rd := Nat → Nat → Node × Int × Nat × Nat
def nCells : Node → List AV
  | .mk t v k => [.d (.int .i64 t), .d (.sl 1 (encB v)), .d (.sl 3 (encNs k))]
def loopX (f : Rd) (e : Nat) : Nat → Nat → Nat → List Node → List Node × Int × Nat × Nat
  | 0, p, c, out => (out, 0, p, c)
  | m + 1, p, c, out => if p < e then (if (f p c).2.1 ≠ 0 then ([], (f p c).2) else loopX f e m (f p c).2.2.1 (f p c).2.2.2 (out ++ [(f p c).1])) else (out, 0, p, c)
def kidsX (b : List UInt8) (f : Rd) (e : Nat) : Nat → Nat → Nat → List Node → List Node × Int × Nat × Nat
  | 0, p, c, out => ([], 6, p, c)
  | m + 1, p, c, out => if e ≤ p ∨ (byteAt b p = 0 ∧ e ≤ p + 1) then ([], 6, p, c) else if byteAt b p = 0 ∧ byteAt b (p + 1) = 0 then (out, 0, p + 2, c)
    else (if (f p c).2.1 ≠ 0 then ([], (f p c).2) else kidsX b f e m (f p c).2.2.1 (f p c).2.2.2 (out ++ [(f p c).1]))

/-- What is known of a reading of one object that ends at most at e. -/
def RdOk (f : Rd) (e : Nat) : Prop := ∀ p c, p ≤ e → c ≤ 256 → p ≤ (f p c).2.2.1 ∧ (f p c).2.2.1 ≤ e ∧ (f p c).2.2.2 ≤ 257 ∧ ((f p c).2.1 = 0 → p < (f p c).2.2.1 ∧ (f p c).2.2.2 ≤ 256)

theorem loopX_ok {f : Rd} {e : Nat} (hf : RdOk f e) : ∀ (m p c : Nat) (out : List Node), p ≤ e → c ≤ 256 → p ≤ (loopX f e m p c out).2.2.1 ∧ (loopX f e m p c out).2.2.1 ≤ e ∧ (loopX f e m p c out).2.2.2 ≤ 257 ∧ ((loopX f e m p c out).2.1 = 0 → (loopX f e m p c out).2.2.2 ≤ 256)
  | 0, p, c, out, hp, hc => ⟨Nat.le_refl _, hp, by show c ≤ 257; omega, fun _ => hc⟩
  | m + 1, p, c, out, hp, hc => by
    have h := hf p c hp hc
    rw [loopX]
    split
    · split
      · rename_i h2
        exact ⟨h.1, h.2.1, h.2.2.1, fun h0 => absurd h0 h2⟩
      · rename_i h2
        have h3 := h.2.2.2 (by simpa using h2)
        have := loopX_ok hf m _ (f p c).2.2.2 (out ++ [(f p c).1]) h.2.1 h3.2
        exact ⟨by omega, this.2⟩
    · exact ⟨Nat.le_refl _, hp, by show c ≤ 257; omega, fun _ => hc⟩
theorem kidsX_ok {b : List UInt8} {f : Rd} {e : Nat} (hf : RdOk f e) : ∀ (m p c : Nat) (out : List Node), p ≤ e → c ≤ 256 → p ≤ (kidsX b f e m p c out).2.2.1 ∧ (kidsX b f e m p c out).2.2.1 ≤ e ∧ (kidsX b f e m p c out).2.2.2 ≤ 257 ∧ ((kidsX b f e m p c out).2.1 = 0 → (kidsX b f e m p c out).2.2.2 ≤ 256)
  | 0, p, c, out, hp, hc => ⟨Nat.le_refl _, hp, by show c ≤ 257; omega, fun _ => hc⟩
  | m + 1, p, c, out, hp, hc => by
    have h := hf p c hp hc
    rw [kidsX]
    split
    · exact ⟨Nat.le_refl _, hp, by show c ≤ 257; omega, fun _ => hc⟩
    · rename_i h0
      split
      · exact ⟨by show p ≤ p + 2; omega, by show p + 2 ≤ e; omega, by show c ≤ 257; omega, fun _ => hc⟩
      · split
        · rename_i h2
          exact ⟨h.1, h.2.1, h.2.2.1, fun h0 => absurd h0 h2⟩
        · rename_i h2
          have h3 := h.2.2.2 (by simpa using h2)
          have := kidsX_ok (b := b) hf m _ (f p c).2.2.2 (out ++ [(f p c).1]) h.2.1 h3.2
          exact ⟨by omega, this.2⟩

set_option maxRecDepth 100000 in
theorem CloneB_spec (es : List (List Dat)) (hl : es.length ≤ 2000000) :
    Spec Tryd.prog 69 [.d (.sl 1 es)] [] (fun r h' => r = .d (.sl 1 es) ∧ h' = []) := by
  refine Spec_of_body hT Tryd.func69 rfl rfl rfl rfl ?_
  intro E hE
  repeat (first | refine AWd_step hT rfl rfl rfl (by first | exact True.intro | omega | exact sd) ?_ | refine AWk_step hT rfl rfl (by first | exact True.intro | omega | exact sd) ?_ | refine AWk_step0 hT rfl (by first | exact True.intro | omega | exact sd) ?_ | refine AWd_nil ?_ | refine AWk_nil ?_ | refine AWd_gstep hT rfl rfl rfl rfl rfl (by intro hg; first | exact ⟨True.intro, True.intro⟩ | exact sg hg) ?_ | refine AWk_gstep hT rfl rfl rfl rfl (by intro hg; first | exact ⟨True.intro, True.intro⟩ | exact sg hg) ?_ | refine AW_seq ?_ | refine AW_region ?_ | refine AW_draw mixed (by kernel_rfl) ?_ | refine AW_block ?_ | refine AW_skip ?_ | refine AW_exit ?_ | refine AW_ret ?_)
  refine AWk_opR (eqNil_ok hT (fun _ => rfl) rfl rfl rfl) rfl ?_
  rintro v h' ⟨rfl, b, rfl, hb⟩
  repeat (first | refine AWd_step hT rfl rfl rfl (by first | exact True.intro | omega | exact sd) ?_ | refine AWk_step hT rfl rfl (by first | exact True.intro | omega | exact sd) ?_ | refine AWk_step0 hT rfl (by first | exact True.intro | omega | exact sd) ?_ | refine AWd_nil ?_ | refine AWk_nil ?_ | refine AWd_gstep hT rfl rfl rfl rfl rfl (by intro hg; first | exact ⟨True.intro, True.intro⟩ | exact sg hg) ?_ | refine AWk_gstep hT rfl rfl rfl rfl (by intro hg; first | exact ⟨True.intro, True.intro⟩ | exact sg hg) ?_ | refine AW_seq ?_ | refine AW_region ?_ | refine AW_draw mixed (by kernel_rfl) ?_ | refine AW_block ?_ | refine AW_skip ?_ | refine AW_exit ?_ | refine AW_ret ?_)
  refine AW_condL rfl (fun h1 => ?_) (fun h1 => ?_)
  · obtain rfl := hb h1
    repeat (first | refine AWd_step hT rfl rfl rfl (by first | exact True.intro | omega | exact sd) ?_ | refine AWk_step hT rfl rfl (by first | exact True.intro | omega | exact sd) ?_ | refine AWk_step0 hT rfl (by first | exact True.intro | omega | exact sd) ?_ | refine AWd_nil ?_ | refine AWk_nil ?_ | refine AWd_gstep hT rfl rfl rfl rfl rfl (by intro hg; first | exact ⟨True.intro, True.intro⟩ | exact sg hg) ?_ | refine AWk_gstep hT rfl rfl rfl rfl (by intro hg; first | exact ⟨True.intro, True.intro⟩ | exact sg hg) ?_ | refine AW_seq ?_ | refine AW_region ?_ | refine AW_draw mixed (by kernel_rfl) ?_ | refine AW_block ?_ | refine AW_skip ?_ | refine AW_exit ?_ | refine AW_ret ?_)
    exact ret_exact rfl AV.le.nils rfl rfl rfl rfl ⟨rfl, rfl⟩
  · repeat (first | refine AWd_step hT rfl rfl rfl (by first | exact True.intro | omega | exact sd) ?_ | refine AWk_step hT rfl rfl (by first | exact True.intro | omega | exact sd) ?_ | refine AWk_step0 hT rfl (by first | exact True.intro | omega | exact sd) ?_ | refine AWd_nil ?_ | refine AWk_nil ?_ | refine AWd_gstep hT rfl rfl rfl rfl rfl (by intro hg; first | exact ⟨True.intro, True.intro⟩ | exact sg hg) ?_ | refine AWk_gstep hT rfl rfl rfl rfl (by intro hg; first | exact ⟨True.intro, True.intro⟩ | exact sg hg) ?_ | refine AW_seq ?_ | refine AW_region ?_ | refine AW_draw mixed (by kernel_rfl) ?_ | refine AW_block ?_ | refine AW_skip ?_ | refine AW_exit ?_ | refine AW_ret ?_)
    refine AWk_op (append_full (es := []) hT rfl rfl rfl (.inl rfl) rfl (by show (([] : List (List Dat)).length + es.length) * (1 + 1) ≤ 140737488355328; simp; omega)) rfl ?_
    repeat (first | refine AWd_step hT rfl rfl rfl (by first | exact True.intro | omega | exact sd) ?_ | refine AWk_step hT rfl rfl (by first | exact True.intro | omega | exact sd) ?_ | refine AWk_step0 hT rfl (by first | exact True.intro | omega | exact sd) ?_ | refine AWd_nil ?_ | refine AWk_nil ?_ | refine AWd_gstep hT rfl rfl rfl rfl rfl (by intro hg; first | exact ⟨True.intro, True.intro⟩ | exact sg hg) ?_ | refine AWk_gstep hT rfl rfl rfl rfl (by intro hg; first | exact ⟨True.intro, True.intro⟩ | exact sg hg) ?_ | refine AW_seq ?_ | refine AW_region ?_ | refine AW_draw mixed (by kernel_rfl) ?_ | refine AW_block ?_ | refine AW_skip ?_ | refine AW_exit ?_ | refine AW_ret ?_)
    exact ret_exact rfl (.refl _) rfl rfl rfl rfl ⟨rfl, rfl⟩

/-- The contract of one object's reading. -/
def ObjS (b : List UInt8) (st : Bool) (f : Rd) (e d : Nat) : Prop := ∀ p c, p ≤ e → c ≤ 256 → Spec Tryd.prog 65 [.ptr 0 0, .d (.int .i64 (e : Int)), .d (.int .i64 (d : Int))] [.row (rdr b st p c)]
  (fun r h' => r = .tup [.agg (nCells (f p c).1), .d (.int .i64 (f p c).2.1)] ∧ h' = [.row (rdr b st (f p c).2.2.1 (f p c).2.2.2)])

set_option maxHeartbeats 8000000 in
set_option maxRecDepth 100000 in
theorem objects_spec (b : List UInt8) (st : Bool) (f : Rd) (e d : Nat) (hb : b.length ≤ 1000000) (he : e ≤ b.length) (hd : d ≤ 100) (hf : RdOk f e) (H : ObjS b st f e d) (p c m : Nat) (hp : p ≤ e) (hc : c ≤ 256) (hm : e < p + m) :
    Spec Tryd.prog 62 [.ptr 0 0, .d (.int .i64 (e : Int)), .d (.int .i64 (d : Int))] [.row (rdr b st p c)]
      (fun r h' => r = .tup [.d (.sl 3 (encNs (loopX f e m p c []).1)), .d (.int .i64 (loopX f e m p c []).2.1)] ∧ h' = [.row (rdr b st (loopX f e m p c []).2.2.1 (loopX f e m p c []).2.2.2)]) := by
  refine Spec_of_body hT Tryd.func62 rfl rfl rfl rfl ?_
  intro E hE
  generalize hfin : loopX f e m p c [] = fin
  refine AW_room ?_
  refine AW_seq (AW_region ?_)
  repeat (first | refine AWd_step hT rfl rfl rfl (by first | exact True.intro | omega | exact sd) ?_ | refine AWk_step hT rfl rfl (by first | exact True.intro | omega | exact sd) ?_ | refine AWk_step0 hT rfl (by first | exact True.intro | omega | exact sd) ?_ | refine AWd_nil ?_ | refine AWk_nil ?_ | refine AWd_gstep hT rfl rfl rfl rfl rfl (by intro hg; first | exact ⟨True.intro, True.intro⟩ | exact sg hg) ?_ | refine AWk_gstep hT rfl rfl rfl rfl (by intro hg; first | exact ⟨True.intro, True.intro⟩ | exact sg hg) ?_)
  refine AW_seq (AW_region ?_)
  repeat (first | refine AWd_step hT rfl rfl rfl (by first | exact True.intro | omega | exact sd) ?_ | refine AWk_step hT rfl rfl (by first | exact True.intro | omega | exact sd) ?_ | refine AWk_step0 hT rfl (by first | exact True.intro | omega | exact sd) ?_ | refine AWd_nil ?_ | refine AWk_nil ?_ | refine AWd_gstep hT rfl rfl rfl rfl rfl (by intro hg; first | exact ⟨True.intro, True.intro⟩ | exact sg hg) ?_ | refine AWk_gstep hT rfl rfl rfl rfl (by intro hg; first | exact ⟨True.intro, True.intro⟩ | exact sg hg) ?_)
  refine AW_acquireAt 8 3 1 (es := []) (.inr ⟨rfl, rfl⟩) rfl ?_
  repeat (first | refine AWd_step hT rfl rfl rfl (by first | exact True.intro | omega | exact sd) ?_ | refine AWk_step hT rfl rfl (by first | exact True.intro | omega | exact sd) ?_ | refine AWk_step0 hT rfl (by first | exact True.intro | omega | exact sd) ?_ | refine AWd_nil ?_ | refine AWk_nil ?_ | refine AWd_gstep hT rfl rfl rfl rfl rfl (by intro hg; first | exact ⟨True.intro, True.intro⟩ | exact sg hg) ?_ | refine AWk_gstep hT rfl rfl rfl rfl (by intro hg; first | exact ⟨True.intro, True.intro⟩ | exact sg hg) ?_ | refine AW_seq ?_ | refine AW_region ?_ | refine AW_draw mixed (by kernel_rfl) ?_ | refine AW_block ?_ | refine AW_skip ?_ | refine AW_exit ?_ | refine AW_ret ?_)
  refine AW_loopC (ι := Nat × Nat × Nat × List Node) (fun x => [(0, .ptr 0 0), (1, .d (.int .i64 (e : Int))), (2, .d (.int .i64 (d : Int))), (8, .sl 3 (encNs x.2.2.2) (.right 1))]) (fun x => [.row (rdr b st x.1 x.2.1), .right 3 (encNs x.2.2.2).length])
    (fun x => x.1 ≤ e ∧ x.2.1 ≤ 256 ∧ e < x.1 + x.2.2.1 ∧ x.2.2.2.length ≤ x.1 ∧ loopX f e x.2.2.1 x.1 x.2.1 x.2.2.2 = fin) (fun x => e - x.1) (p, c, m, []) ⟨hp, hc, hm, by simp, hfin⟩ ⟨.refl _, .refl _, .refl _, .refl _, trivial⟩ ⟨.refl _, .refl _, trivial⟩ ?_
  rintro ⟨p, c, m, out⟩ ⟨hp, hc, hm, ho, hg⟩
  simp only at hp hc hm ho hg ⊢
  have hol := encNs_length out
  repeat (first | refine AWd_step hT rfl rfl rfl (by first | exact True.intro | omega | exact sd) ?_ | refine AWk_step hT rfl rfl (by first | exact True.intro | omega | exact sd) ?_ | refine AWk_step0 hT rfl (by first | exact True.intro | omega | exact sd) ?_ | refine AWd_nil ?_ | refine AWk_nil ?_ | refine AWd_gstep hT rfl rfl rfl rfl rfl (by intro hg; first | exact ⟨True.intro, True.intro⟩ | exact sg hg) ?_ | refine AWk_gstep hT rfl rfl rfl rfl (by intro hg; first | exact ⟨True.intro, True.intro⟩ | exact sg hg) ?_ | refine AW_seq ?_ | refine AW_region ?_ | refine AW_draw mixed (by kernel_rfl) ?_ | refine AW_block ?_ | refine AW_skip ?_ | refine AW_exit ?_ | refine AW_ret ?_)
  refine AW_condL rfl (fun h1 => ?_) (fun h1 => ?_)
  · have h1' : p < e := by simpa using h1
    obtain ⟨m, rfl⟩ : ∃ m', m = m' + 1 := ⟨m - 1, by omega⟩
    have hob := H p c hp hc
    have hok := hf p c hp hc
    rw [loopX, if_pos h1'] at hg
    generalize f p c = q at hob hok hg
    obtain ⟨⟨t, v, k⟩, er, p', c'⟩ := q
    simp only [nCells] at hob hok hg
    repeat (first | refine AWd_step hT rfl rfl rfl (by first | exact True.intro | omega | exact sd) ?_ | refine AWk_step hT rfl rfl (by first | exact True.intro | omega | exact sd) ?_ | refine AWk_step0 hT rfl (by first | exact True.intro | omega | exact sd) ?_ | refine AWd_nil ?_ | refine AWk_nil ?_ | refine AWd_gstep hT rfl rfl rfl rfl rfl (by intro hg; first | exact ⟨True.intro, True.intro⟩ | exact sg hg) ?_ | refine AWk_gstep hT rfl rfl rfl rfl (by intro hg; first | exact ⟨True.intro, True.intro⟩ | exact sg hg) ?_ | refine AW_seq ?_ | refine AW_region ?_ | refine AW_draw mixed (by kernel_rfl) ?_ | refine AW_block ?_ | refine AW_skip ?_ | refine AW_exit ?_ | refine AW_ret ?_)
    refine AWk_op (callS1 rfl rfl hob [0] (by decide) rfl rfl rfl rfl rfl rfl rfl) rfl ?_
    repeat (first | refine AWd_step hT rfl rfl rfl (by first | exact True.intro | omega | exact sd) ?_ | refine AWk_step hT rfl rfl (by first | exact True.intro | omega | exact sd) ?_ | refine AWk_step0 hT rfl (by first | exact True.intro | omega | exact sd) ?_ | refine AWd_nil ?_ | refine AWk_nil ?_ | refine AWd_gstep hT rfl rfl rfl rfl rfl (by intro hg; first | exact ⟨True.intro, True.intro⟩ | exact sg hg) ?_ | refine AWk_gstep hT rfl rfl rfl rfl (by intro hg; first | exact ⟨True.intro, True.intro⟩ | exact sg hg) ?_ | refine AW_seq ?_ | refine AW_region ?_ | refine AW_draw mixed (by kernel_rfl) ?_ | refine AW_block ?_ | refine AW_skip ?_ | refine AW_exit ?_ | refine AW_ret ?_)
    refine AW_condL rfl (fun h2 => ?_) (fun h2 => ?_)
    · have h2' : er ≠ 0 := by simpa using h2
      rw [if_pos h2'] at hg
      subst hg
      repeat (first | refine AWd_step hT rfl rfl rfl (by first | exact True.intro | omega | exact sd) ?_ | refine AWk_step hT rfl rfl (by first | exact True.intro | omega | exact sd) ?_ | refine AWk_step0 hT rfl (by first | exact True.intro | omega | exact sd) ?_ | refine AWd_nil ?_ | refine AWk_nil ?_ | refine AWd_gstep hT rfl rfl rfl rfl rfl (by intro hg; first | exact ⟨True.intro, True.intro⟩ | exact sg hg) ?_ | refine AWk_gstep hT rfl rfl rfl rfl (by intro hg; first | exact ⟨True.intro, True.intro⟩ | exact sg hg) ?_ | refine AW_seq ?_ | refine AW_region ?_ | refine AW_draw mixed (by kernel_rfl) ?_ | refine AW_block ?_ | refine AW_skip ?_ | refine AW_exit ?_ | refine AW_ret ?_)
      exact ret_exact (r := .tup [.d (.sl 3 (encNs [])), .d (.int .i64 er)]) rfl (AV.le.tup ⟨AV.le.nils, .refl _, trivial⟩) rfl rfl rfl rfl ⟨rfl, rfl⟩
    · have h2' : ¬ er ≠ 0 := by simpa using h2
      have hok2 := hok.2.2.2 (by simpa using h2)
      rw [if_neg h2'] at hg
      repeat (first | refine AWd_step hT rfl rfl rfl (by first | exact True.intro | omega | exact sd) ?_ | refine AWk_step hT rfl rfl (by first | exact True.intro | omega | exact sd) ?_ | refine AWk_step0 hT rfl (by first | exact True.intro | omega | exact sd) ?_ | refine AWd_nil ?_ | refine AWk_nil ?_ | refine AWd_gstep hT rfl rfl rfl rfl rfl (by intro hg; first | exact ⟨True.intro, True.intro⟩ | exact sg hg) ?_ | refine AWk_gstep hT rfl rfl rfl rfl (by intro hg; first | exact ⟨True.intro, True.intro⟩ | exact sg hg) ?_ | refine AW_seq ?_ | refine AW_region ?_ | refine AW_draw mixed (by kernel_rfl) ?_ | refine AW_block ?_ | refine AW_skip ?_ | refine AW_exit ?_ | refine AW_ret ?_)
      refine AWk_op (append_rightL (i := 1) hT rfl rfl rfl rfl rfl rfl (by show ((encNs out).length + 1) * (56 + 1) ≤ _; omega)) rfl ?_
      repeat (first | refine AWd_step hT rfl rfl rfl (by first | exact True.intro | omega | exact sd) ?_ | refine AWk_step hT rfl rfl (by first | exact True.intro | omega | exact sd) ?_ | refine AWk_step0 hT rfl (by first | exact True.intro | omega | exact sd) ?_ | refine AWd_nil ?_ | refine AWk_nil ?_ | refine AWd_gstep hT rfl rfl rfl rfl rfl (by intro hg; first | exact ⟨True.intro, True.intro⟩ | exact sg hg) ?_ | refine AWk_gstep hT rfl rfl rfl rfl (by intro hg; first | exact ⟨True.intro, True.intro⟩ | exact sg hg) ?_ | refine AW_seq ?_ | refine AW_region ?_ | refine AW_draw mixed (by kernel_rfl) ?_ | refine AW_block ?_ | refine AW_skip ?_ | refine AW_exit ?_ | refine AW_ret ?_)
      have hres : encNs (out ++ [.mk t v k]) = encNs out ++ [encN (.mk t v k)] := by rw [encNs_append]; rfl
      exact ⟨(p', c', m, out ++ [.mk t v k]), [_], ⟨hok.2.1, hok2.2, by simp only; omega, by simp only [List.length_append, List.length_singleton]; omega, hg⟩, by simp only; omega, ⟨.refl _, .refl _, .refl _, AV.le.eq (by rw [hres]; rfl), trivial⟩, ⟨ObLe.refl _, ⟨rfl, by rw [hres]; rfl⟩, ObLe.refl _, trivial⟩, Env.below_mono hE (by simp), rfl, rfl⟩
  · have h1' : ¬ p < e := by simpa using h1
    have hgf : (out, (0 : Int), p, c) = fin := by
      rw [← hg]
      cases m with
      | zero => rfl
      | succ m => rw [loopX, if_neg h1']
    subst hgf
    repeat (first | refine AWd_step hT rfl rfl rfl (by first | exact True.intro | omega | exact sd) ?_ | refine AWk_step hT rfl rfl (by first | exact True.intro | omega | exact sd) ?_ | refine AWk_step0 hT rfl (by first | exact True.intro | omega | exact sd) ?_ | refine AWd_nil ?_ | refine AWk_nil ?_ | refine AWd_gstep hT rfl rfl rfl rfl rfl (by intro hg; first | exact ⟨True.intro, True.intro⟩ | exact sg hg) ?_ | refine AWk_gstep hT rfl rfl rfl rfl (by intro hg; first | exact ⟨True.intro, True.intro⟩ | exact sg hg) ?_ | refine AW_seq ?_ | refine AW_region ?_ | refine AW_draw mixed (by kernel_rfl) ?_ | refine AW_block ?_ | refine AW_skip ?_ | refine AW_exit ?_ | refine AW_ret ?_)
    exact ret_exact (r := .tup [.d (.sl 3 (encNs out)), .d (.int .i64 0)]) rfl (AV.le.tup ⟨AV.le.dat, .refl _, trivial⟩) rfl rfl rfl rfl ⟨rfl, rfl⟩
end Tdoc
