/- Regions that draw their order: one walk in the text's order serves every order. No program is named here. -/
import Derived.Test.YtnjanpmgonoeeaaGreatDoorK1
import Derived.KernelRfl
import Derived.Laws.MakeOwn
import Derived.Laws.Small
import Derived.Lib.SlBytesConst
import Derived.Lib.ConvBytes
set_option linter.unusedSimpArgs false
set_option linter.unusedVariables false
namespace Tdoc
open Go

def updH (h : List AObj) : List Nat → List AObj → List AObj
  | j :: fs, o :: os => updH (h.set j o) fs os
  | _, _ => h

theorem updH_length : ∀ (fs : List Nat) (os h : List AObj), (updH h fs os).length = h.length
  | [], os, h => by cases os <;> rfl
  | j :: fs, [], h => rfl
  | j :: fs, o :: os, h => by simp [updH, updH_length fs os]

theorem updH_other : ∀ (fs : List Nat) (os h : List AObj) (j : Nat), j ∉ fs → (updH h fs os)[j]? = h[j]?
  | [], os, h, j, _ => by cases os <;> rfl
  | a :: fs, [], h, j, _ => rfl
  | a :: fs, o :: os, h, j, hn => by
    simp only [List.mem_cons, not_or] at hn
    rw [updH, updH_other fs os _ j hn.2, List.getElem?_set_ne (by omega)]


theorem updH_comm : ∀ (fs gs : List Nat) (os qs h : List AObj), (∀ x, x ∈ fs → x ∉ gs) → updH (updH h fs os) gs qs = updH (updH h gs qs) fs os
  | [], gs, os, qs, h, _ => by cases os <;> rfl
  | a :: fs, gs, [], qs, h, _ => rfl
  | a :: fs, gs, o :: os, qs, h, hd => by
    rw [updH, updH, updH_comm fs gs os qs _ (fun x hx => hd x (List.mem_cons_of_mem _ hx))]
    congr 1
    have ha : a ∉ gs := hd a List.mem_cons_self
    have one : ∀ (gs : List Nat) (qs h : List AObj), a ∉ gs → updH (h.set a o) gs qs = (updH h gs qs).set a o := by
      intro gs
      induction gs with
      | nil => intro qs h _; cases qs <;> rfl
      | cons b gs ih =>
        intro qs h hn
        simp only [List.mem_cons, not_or] at hn
        cases qs with
        | nil => rfl
        | cons q qs =>
          rw [updH, updH, List.set_comm _ _ hn.1]
          exact ih qs _ hn.2
    exact one gs qs h ha

section
variable {P : Program} {E : Env} {N : Nat} {ops : Array Oper}

theorem OpR_congr {o : Oper} {ρ ρ' : Operand → AV} {h : List AObj} {R : AV → List AObj → Prop} (hc : ∀ x, x ∈ o.op.operands.toList → ρ' x = ρ x) (H : OpR P E o ρ h R) : OpR P E o ρ' h R :=
  fun G a w hw hr => H G a w hw fun x hx => by rw [← hc x hx]; exact hr x hx

/-- A step with one outcome, over every heap that agrees in what it reads. -/
def SI (P : Program) (E : Env) (N : Nat) (ops : Array Oper) (rd wr : Nat → List Nat) (i : Nat) (o : Oper) (τ : Nat → AV) (h : List AObj) (v : AV) (os : List AObj) : Prop :=
  ∀ k : List AObj, k.length = h.length → (∀ j, j ∈ rd i → k[j]? = h[j]?) → StepR P E N ops o τ k (fun a b => a = v ∧ b = updH k (wr i) os)

theorem StepR_congr {o : Oper} {τ τ' : Nat → AV} {h : List AObj} {R : AV → List AObj → Prop} (hc : ∀ d, d ∈ o.looksAt ops → τ' d = τ d) (H : StepR P E N ops o τ h R) : StepR P E N ops o τ' h R := by
  obtain ⟨h1, h2⟩ := H
  have hop : ∀ x, x ∈ o.op.operands.toList → ev τ' x = ev τ x := by
    intro x hx
    cases x with
    | tmp t =>
      refine hc t ?_
      unfold Oper.looksAt
      exact List.mem_append.2 (.inl (List.mem_filterMap.2 ⟨.tmp t, hx, rfl⟩))
    | _ => rfl
  refine ⟨h1, ?_⟩
  cases hg : o.guard with
  | none => rw [hg] at h2; exact OpR_congr hop h2
  | some g =>
    obtain ⟨j, want⟩ := g
    rw [hg] at h2
    obtain ⟨d, ex, k1, k2, k3, k4, k5⟩ := h2
    have hd : τ' d = τ d := hc d (by
      unfold Oper.looksAt
      rw [hg]
      exact List.mem_append.2 (.inr (by simp [k1])))
    exact ⟨d, ex, k1, k2, by rw [hd]; exact k3, fun hb => OpR_congr hop (k4 hb), k5⟩


theorem SI.congr {rd wr : Nat → List Nat} {i : Nat} {o : Oper} {τ τ' : Nat → AV} {h h' os : List AObj} {v : AV} (hc : ∀ d, d ∈ o.looksAt ops → τ' d = τ d) (hl : h'.length = h.length) (hh : ∀ j, j ∈ rd i → h'[j]? = h[j]?)
    (H : SI P E N ops rd wr i o τ h v os) : SI P E N ops rd wr i o τ' h' v os :=
  fun k h1 h2 => StepR_congr hc (H k (h1.trans hl) fun j hj => (h2 j hj).trans (hh j hj))

theorem putA_other {τ : Nat → AV} {dst : Option Tmp} {v : AV} {d : Nat} (h : ∀ e, dst = some e → e ≠ d) : putA τ dst v d = τ d := by
  cases dst with
  | none => rfl
  | some e =>
    have := h e rfl
    show (bif Nat.beq d e then v else τ d) = τ d
    have hb : Nat.beq d e = false := by
      cases hb : Nat.beq d e with
      | false => rfl
      | true => exact absurd (Nat.eq_of_beq_eq_true hb).symm this
    rw [hb]; rfl

theorem putA_comm {τ : Nat → AV} {x y : Option Tmp} {v u : AV} (h : ∀ d, x = some d → y ≠ some d) : putA (putA τ x v) y u = putA (putA τ y u) x v := by
  funext t
  cases x with
  | none => rfl
  | some a =>
    cases y with
    | none => rfl
    | some b =>
      have hab : a ≠ b := fun hh => h a rfl (by rw [hh])
      show (bif Nat.beq t b then u else (bif Nat.beq t a then v else τ t)) = (bif Nat.beq t a then v else (bif Nat.beq t b then u else τ t))
      cases hb : Nat.beq t b with
      | false => rfl
      | true =>
        cases ha : Nat.beq t a with
        | false => rfl
        | true => exact absurd ((Nat.eq_of_beq_eq_true ha).symm.trans (Nat.eq_of_beq_eq_true hb)) hab

def stepI (P : Program) (E : Env) (N : Nat) (ops : Array Oper) (rd wr : Nat → List Nat) (i : Nat) (K : (Nat → AV) → List AObj → Prop) (τ : Nat → AV) (h : List AObj) : Prop :=
  match ops[i]? with
  | none => K τ h
  | some o => ∃ v os, SI P E N ops rd wr i o τ h v os ∧ K (putA τ o.dst v) (updH h (wr i) os)

def anyA (P : Program) (E : Env) (N : Nat) (ops : Array Oper) (rd wr : Nat → List Nat) (Q : (Nat → AV) → List AObj → Prop) : Nat → Array Bool → (Nat → AV) → List AObj → Prop
  | 0, listed, τ, h => Region.ready .any ops listed = [] ∧ Q τ h
  | fuel + 1, listed, τ, h => (Region.ready .any ops listed = [] → Q τ h) ∧ ∀ i, i ∈ Region.ready .any ops listed → stepI P E N ops rd wr i (anyA P E N ops rd wr Q fuel (listed.setIfInBounds i true)) τ h

theorem anyA_sound {rd wr : Nat → List Nat} {Q : Exit → (Nat → AV) → List AObj → Prop} : ∀ (fuel : Nat) (listed : Array Bool) (τ : Nat → AV) (h : List AObj) (a : Act) (w : World), anyA P E N ops rd wr (Q .normal) fuel listed τ h → Rel E N τ h a w →
    wpAny P .any ops (fun ex a' w' => ∃ τ' h', Q ex τ' h' ∧ Rel E N τ' h' a' w') fuel listed a w
  | 0, _, τ, h, _, _, H, hr => ⟨H.1, τ, h, H.2, hr⟩
  | fuel + 1, listed, τ, h, a, w, H, hr => by
    refine ⟨fun h0 => ⟨τ, h, H.1 h0, hr⟩, fun i hi => ?_⟩
    have hs := H.2 i hi
    unfold stepI at hs
    split at hs
    · rename_i ho
      unfold wpOp
      simp only [ho]
      exact anyA_sound fuel _ τ h a w hs hr
    · rename_i o ho
      obtain ⟨v, os, hsi, hk⟩ := hs
      exact step_sound ho (hsi h rfl fun _ _ => rfl) hr fun v' h'' a' w' ⟨h1, h2⟩ hrel => by
        subst h1; subst h2
        exact anyA_sound fuel _ _ _ a' w' hk hrel

def meets (a b : List Nat) : Bool := a.any fun x => b.contains x
def conf (rd wr : Nat → List Nat) (i j : Nat) : Bool := meets (wr i) (rd j) || meets (wr i) (wr j) || meets (wr j) (rd i)

theorem meets_not {a b : List Nat} (h : meets a b = false) : ∀ x, x ∈ a → x ∉ b := by
  intro x hx hb
  unfold meets at h
  rw [List.any_eq_false] at h
  exact h x hx (by simpa using hb)

theorem anyA_first {rd wr : Nat → List Nat} {Q : (Nat → AV) → List AObj → Prop} {i : Nat} {oi : Oper} {v : AV} {osi : List AObj} (hi : ops[i]? = some oi) : ∀ (fuel : Nat) (listed : Array Bool) (τ : Nat → AV) (h : List AObj),
    (∀ j oj, ops[j]? = some oj → j ≠ i → listed.getD j true = false → (∀ e ∈ oj.after, Region.binds .any e = true → e.on ≠ i) → oi.apart ops oj = true ∧ conf rd wr i j = false) →
    i ∈ Region.ready .any ops listed → SI P E N ops rd wr i oi τ h v osi → anyA P E N ops rd wr Q fuel (listed.setIfInBounds i true) (putA τ oi.dst v) (updH h (wr i) osi) → anyA P E N ops rd wr Q (fuel + 1) listed τ h := by
  intro fuel
  have own : ∀ (listed : Array Bool) (τ : Nat → AV) (h : List AObj) (K : (Nat → AV) → List AObj → Prop), SI P E N ops rd wr i oi τ h v osi → K (putA τ oi.dst v) (updH h (wr i) osi) → stepI P E N ops rd wr i K τ h := by
    intro listed τ h K hs hk
    unfold stepI
    simp only [hi]
    exact ⟨v, osi, hs, hk⟩
  induction fuel with
  | zero =>
    intro listed τ h _ hr hy H
    refine ⟨fun h0 => (by rw [h0] at hr; cases hr), fun j hj => ?_⟩
    by_cases hji : j = i
    · subst hji; exact own listed τ h _ hy H
    · have := ready_mono hj hji
      rw [H.1] at this
      cases this
  | succ fuel ih =>
    intro listed τ h hfree hr hy H
    refine ⟨fun h0 => (by rw [h0] at hr; cases hr), fun j hj => ?_⟩
    by_cases hji : j = i
    · subst hji; exact own listed τ h _ hy H
    · have hs := H.2 j (ready_mono hj hji)
      obtain ⟨hjun, oj, hoj, hall⟩ := mem_ready.1 hj
      have hnot : ∀ e ∈ oj.after, Region.binds .any e = true → e.on ≠ i := fun e he hb heq => by
        have h1 := hall e he hb
        have h0 := (mem_ready.1 hr).1
        rw [heq] at h1
        rcases Nat.lt_or_ge i listed.size with h' | h'
        · simp [h'] at h0 h1; rw [h0] at h1; cases h1
        · simp [Array.getElem?_eq_none h'] at h1
      obtain ⟨hap, hcf⟩ := hfree j oj hoj hji hjun hnot
      obtain ⟨a1, a2, a3⟩ := Oper.apart_spec hap
      simp only [conf, Bool.or_eq_false_iff] at hcf
      obtain ⟨⟨f1, f2⟩, f3⟩ := hcf
      have f1 := meets_not f1
      have f2 := meets_not f2
      have f3 := meets_not f3
      unfold stepI at hs ⊢
      simp only [hoj] at hs ⊢
      obtain ⟨vj, osj, hsj, hk⟩ := hs
      have cj : ∀ d, d ∈ oj.looksAt ops → τ d = putA τ oi.dst v d := fun d hd => (putA_other fun e he hh => a1 e he (hh ▸ hd)).symm
      have ci : ∀ u d, d ∈ oi.looksAt ops → putA τ oj.dst u d = τ d := fun u d hd => putA_other fun e he hh => a3 e he (hh ▸ hd)
      have hfree' : ∀ k ok, ops[k]? = some ok → k ≠ i → (listed.setIfInBounds j true).getD k true = false → (∀ e ∈ ok.after, Region.binds .any e = true → e.on ≠ i) → oi.apart ops ok = true ∧ conf rd wr i k = false := fun k ok hk' hki hun hno => by
        refine hfree k ok hk' hki ?_ hno
        by_cases hjk : j = k
        · subst hjk; exact hjun
        · rw [getD_set_ne true hjk] at hun; exact hun
      refine ⟨vj, osj, hsj.congr cj (by rw [updH_length]) (fun x hx => (updH_other _ _ _ _ (fun hw => f1 x hw hx)).symm), ih _ _ _ hfree' (ready_mono hr (Ne.symm hji)) (hy.congr (ci vj) (by rw [updH_length]) (fun x hx => updH_other _ _ _ _ (fun hw => f3 x hw hx))) ?_⟩
      rw [Array.setIfInBounds_comm _ _ hji, ← putA_comm a2, ← updH_comm _ _ _ _ _ f2]
      exact hk

/-! the lexical walk -/

def AWd (P : Program) (E : Env) (N : Nat) (ops : List Oper) (rd wr : Nat → List Nat) (Q : (Nat → AV) → List AObj → Prop) : List Oper → Nat → (Nat → AV) → List AObj → Prop
  | [], _, τ, h => Q τ h
  | o :: rest, i, τ, h => ∃ v os, SI P E N ops.toArray rd wr i o τ h v os ∧ AWd P E N ops rd wr Q rest (i + 1) (putA τ o.dst v) (updH h (wr i) os)

def freeD (ops : Array Oper) (rd wr : Nat → List Nat) (listed : Array Bool) (i : Nat) : Bool :=
  match ops[i]? with
  | none => false
  | some oi => (List.range ops.size).all fun j => j == i || listed.getD j true || match ops[j]? with
      | some oj => oj.after.any (fun e => Region.binds .any e && e.on == i) || (oi.apart ops oj && !conf rd wr i j)
      | none => true

theorem freeD_spec {rd wr : Nat → List Nat} {i : Nat} {oi : Oper} {listed : Array Bool} (hi : ops[i]? = some oi) (h : freeD ops rd wr listed i = true) (j : Nat) (oj : Oper)
    (hj : ops[j]? = some oj) (hne : j ≠ i) (hun : listed.getD j true = false) (hno : ∀ e ∈ oj.after, Region.binds .any e = true → e.on ≠ i) : oi.apart ops oj = true ∧ conf rd wr i j = false := by
  simp only [freeD, hi, List.all_eq_true, List.mem_range] at h
  have h1 := h j (Array.getElem?_eq_some_iff.1 hj).1
  simp only [hj, Bool.or_eq_true, beq_iff_eq, hne, false_or, hun, Bool.false_eq_true] at h1
  rcases h1 with h1 | h1
  · obtain ⟨e, he, hb⟩ := Array.any_eq_true'.1 h1
    simp only [Bool.and_eq_true, beq_iff_eq] at hb
    exact absurd hb.2 (hno e he hb.1)
  · simpa using h1

def lexD (ops : Array Oper) (rd wr : Nat → List Nat) : Nat → Nat → Array Bool → Bool
  | 0, _, listed => (Region.ready .any ops listed).isEmpty
  | fuel + 1, k, listed => (Region.ready .any ops listed).contains k && freeD ops rd wr listed k && lexD ops rd wr fuel (k + 1) (listed.setIfInBounds k true)

theorem AWd_any {rd wr : Nat → List Nat} {ops : List Oper} {Q : (Nat → AV) → List AObj → Prop} : ∀ (l : List Oper) (k : Nat) (listed : Array Bool) (τ : Nat → AV) (h : List AObj), (∀ j, l[j]? = ops[k + j]?) →
    lexD ops.toArray rd wr l.length k listed = true → AWd P E N ops rd wr Q l k τ h → anyA P E N ops.toArray rd wr Q l.length listed τ h
  | [], _, _, _, _, _, hB, H => ⟨by simpa [lexD] using hB, H⟩
  | o :: l, k, listed, τ, h, hl, hB, H => by
    have h0 : ops.toArray[k]? = some o := by simpa using (hl 0).symm
    simp only [List.length_cons, lexD, Bool.and_eq_true] at hB
    obtain ⟨⟨hr, hf⟩, hB'⟩ := hB
    obtain ⟨v, os, hs, hk⟩ := H
    exact anyA_first h0 l.length listed τ h (freeD_spec h0 hf) (by simpa using hr) hs
      (AWd_any l (k + 1) _ _ _ (fun j => by have := hl (j + 1); simpa [Nat.add_assoc, Nat.add_comm 1 j] using this) hB' hk)

theorem Rel.drew {τ : Nat → AV} {h : List AObj} {a : Act} {w : World} (hr : Rel E N τ h a w) : Rel E N τ h a { w with drawn := w.drawn + 1 } := by
  obtain ⟨h1, h2, G, hw, h3⟩ := hr
  refine ⟨h1, h2, G, ⟨hw.le, hw.imm, hw.immNew, hw.keep, hw.size, hw.os, hw.tape, hw.output, hw.own, hw.fresh, fun i ob hi => ?_⟩, h3⟩
  exact (hw.obj i ob hi).keep (.refl G) (fun b _ => ⟨rfl, fun _ _ => rfl⟩) (fun _ hn => hn) (fun hn => hn)

theorem AW_drawG {id : Nat} (rd wr : Nat → List Nat) {ops : List Oper} {Q : Exit → (Nat → AV) → List AObj → Prop} {τ : Nat → AV} {h : List AObj} (hm : P.follows .mixedOrders = true)
    (hB : lexD ops.toArray rd wr ops.length 0 (Array.replicate ops.length false) = true) (H : AWd P E N ops rd wr (Q .normal) ops 0 τ h) : AW P E N (.region id ops.toArray true) Q τ h := by
  intro a w hr
  refine wp_region_any hm ?_
  have := AWd_any (P := P) (E := E) (N := N) ops 0 _ τ h (fun j => by simp) hB H
  have := anyA_sound (Q := Q) _ _ _ _ a _ this hr.drew
  simpa using this

/-- A region that only reads. -/
theorem AW_draw {id : Nat} {ops : List Oper} {Q : Exit → (Nat → AV) → List AObj → Prop} {τ : Nat → AV} {h : List AObj} (hm : P.follows .mixedOrders = true)
    (hB : lexD ops.toArray (fun _ => List.range h.length) (fun _ => []) ops.length 0 (Array.replicate ops.length false) = true) (H : AWd P E N ops (fun _ => List.range h.length) (fun _ => []) (Q .normal) ops 0 τ h) : AW P E N (.region id ops.toArray true) Q τ h :=
  AW_drawG _ _ hm hB H

/-! steps of the lexical walk -/
theorem AWd_nil {rd wr : Nat → List Nat} {ops : List Oper} {Q : (Nat → AV) → List AObj → Prop} {i : Nat} {τ : Nat → AV} {h : List AObj} (hq : Q τ h) : AWd P E N ops rd wr Q [] i τ h := hq

theorem same_heap {h k : List AObj} (hl : k.length = h.length) (hh : ∀ j, j ∈ List.range h.length → k[j]? = h[j]?) : k = h := by
  apply List.ext_getElem?
  intro j
  by_cases hj : j < h.length
  · exact hh j (List.mem_range.2 hj)
  · rw [List.getElem?_eq_none (by omega), List.getElem?_eq_none (by omega)]

theorem updH_nil (k os : List AObj) : updH k [] os = k := by cases os <;> rfl

/-- A step that reads what it likes and writes nothing, in a region that writes nothing. -/
theorem AWd_step {T : Tr} (hT : TOk P T) {n : Nat} {ops : List Oper} {Q : (Nat → AV) → List AObj → Prop} {i d : Nat} {op : Op} {ty : TypeId} {pos : String} {after : Array Edge} {rest : List Oper}
    {l : List (Nat × AV)} {h : List AObj} {v : AV} {C : Prop} (hs : astep T op (ev (look l)) h = some (v, h, C)) (hd : Nat.blt d N = true) (hn : h.length = n) (hC : C) (hk : AWd P E N ops (fun _ => List.range n) (fun _ => []) Q rest (i + 1) (look ((d, v) :: l)) h) :
    AWd P E N ops (fun _ => List.range n) (fun _ => []) Q (⟨some d, op, ty, pos, after, none⟩ :: rest) i (look l) h := by
  subst hn
  refine ⟨v, [], fun k h1 h2 => ?_, hk⟩
  have : k = h := same_heap h1 h2
  subst this
  exact ⟨hd, OpR_of_S (astep_ok hT hs hC)⟩

theorem AWd_gstep {T : Tr} (hT : TOk P T) {n : Nat} {ops : List Oper} {Q : (Nat → AV) → List AObj → Prop} {i d : Nat} {op : Op} {ty : TypeId} {pos : String} {after : Array Edge} {j : Nat} {want : Bool} {rest : List Oper}
    {l : List (Nat × AV)} {h : List AObj} {v : AV} {C : Prop} {gd : Nat} {ex : Bool} (hg : gslot ops l j want = some (gd, ex)) (hs : astep T op (evG (look l) op) h = some (v, h, C)) (hd : Nat.blt d N = true) (hgd : Nat.blt gd N = true) (hn : h.length = n)
    (hC : ex = true → gAll (look l) (gOps op) ∧ C) (hk : AWd P E N ops (fun _ => List.range n) (fun _ => []) Q rest (i + 1) (look ((d, .gd ex v) :: l)) h) :
    AWd P E N ops (fun _ => List.range n) (fun _ => []) Q (⟨some d, op, ty, pos, after, some (j, want)⟩ :: rest) i (look l) h := by
  subst hn
  refine ⟨_, [], fun k h1 h2 => ?_, hk⟩
  have : k = h := same_heap h1 h2
  subst this
  exact guard_ok rfl hg hd hgd (fun hb => ⟨(hC hb).1, astepU_ok (o := ⟨some d, op, ty, pos, after, some (j, want)⟩) hT hs (hC hb).2⟩)

/-- A step given by a contract, in a region that writes nothing. -/
theorem AWd_op {n : Nat} {ops : List Oper} {Q : (Nat → AV) → List AObj → Prop} {i d : Nat} {op : Op} {ty : TypeId} {pos : String} {after : Array Edge} {rest : List Oper}
    {l : List (Nat × AV)} {h : List AObj} {v : AV} (hs : OpS P E ⟨some d, op, ty, pos, after, none⟩ (ev (look l)) h v h) (hd : Nat.blt d N = true) (hn : h.length = n)
    (hk : AWd P E N ops (fun _ => List.range n) (fun _ => []) Q rest (i + 1) (look ((d, v) :: l)) h) : AWd P E N ops (fun _ => List.range n) (fun _ => []) Q (⟨some d, op, ty, pos, after, none⟩ :: rest) i (look l) h := by
  subst hn
  refine ⟨v, [], fun k h1 h2 => ?_, hk⟩
  have : k = h := same_heap h1 h2
  subst this
  exact ⟨hd, OpR_of_S hs⟩

theorem AWd_gop {n : Nat} {ops : List Oper} {Q : (Nat → AV) → List AObj → Prop} {i d : Nat} {op : Op} {ty : TypeId} {pos : String} {after : Array Edge} {j : Nat} {want : Bool} {rest : List Oper}
    {l : List (Nat × AV)} {h : List AObj} {v : AV} {gd : Nat} {ex : Bool} (hg : gslot ops l j want = some (gd, ex)) (hd : Nat.blt d N = true) (hgd : Nat.blt gd N = true) (hn : h.length = n)
    (hC : ex = true → gAll (look l) (gOps op) ∧ OpS P E ⟨some d, op, ty, pos, after, some (j, want)⟩ (evG (look l) op) h v h) (hk : AWd P E N ops (fun _ => List.range n) (fun _ => []) Q rest (i + 1) (look ((d, .gd ex v) :: l)) h) :
    AWd P E N ops (fun _ => List.range n) (fun _ => []) Q (⟨some d, op, ty, pos, after, some (j, want)⟩ :: rest) i (look l) h := by
  subst hn
  refine ⟨_, [], fun k h1 h2 => ?_, hk⟩
  have : k = h := same_heap h1 h2
  subst this
  exact guard_ok rfl hg hd hgd hC

/-- In a region that reads and writes objects one by one: a step that asks the heap nothing. -/
theorem AWg_pure {T : Tr} (hT : TOk P T) {rd wr : Nat → List Nat} {ops : List Oper} {Q : (Nat → AV) → List AObj → Prop} {i : Nat} {dst : Option Tmp} {op : Op} {ty : TypeId} {pos : String} {after : Array Edge} {rest : List Oper}
    {l : List (Nat × AV)} {h : List AObj} {v : AV} {C : Prop} (hs : ∀ k, astep T op (ev (look l)) k = some (v, k, C)) (hd : dstOk N ⟨dst, op, ty, pos, after, none⟩ = true) (hw : wr i = []) (hC : C) (hk : AWd P E N ops rd wr Q rest (i + 1) (look (putL l dst v)) h) :
    AWd P E N ops rd wr Q (⟨dst, op, ty, pos, after, none⟩ :: rest) i (look l) h := by
  refine ⟨v, [], fun k h1 h2 => ?_, by rw [hw, updH_nil, ← look_putL]; exact hk⟩
  rw [hw]
  simp only [updH_nil]
  exact ⟨hd, OpR_of_S (astep_ok hT (hs k) hC)⟩

/-- A store's new cells, laid open. -/
def storeF (T : Tr) (t : Nat) (cells : List AV) (off : Nat) (x : AV) : Option (List AV) := forceV x fun x => match storeA T t cells off x with
  | some c => forceS c some
  | none => none
theorem storeF_eq (T : Tr) (t : Nat) (cells : List AV) (off : Nat) (x : AV) : storeF T t cells off x = storeA T t cells off x := by
  unfold storeF; rw [forceV_eq]; split
  · rename_i h; rw [forceS_eq, h]
  · rename_i h; rw [h]
def loadF (T : Tr) (t : Nat) (cells : List AV) (off : Nat) : Option AV := match loadA T t cells off with
  | some v => forceV v some
  | none => none
theorem loadF_eq (T : Tr) (t : Nat) (cells : List AV) (off : Nat) : loadF T t cells off = loadA T t cells off := by
  unfold loadF; split
  · rename_i h; rw [forceV_eq, h]
  · rename_i h; rw [h]

/-- A load from one object. -/
theorem AWg_load {T : Tr} (hT : TOk P T) {rd wr : Nat → List Nat} {ops : List Oper} {Q : (Nat → AV) → List AObj → Prop} {i d t j off : Nat} {x : Operand} {ty : TypeId} {pos : String} {after : Array Edge} {rest : List Oper} {cells : List AV}
    {l : List (Nat × AV)} {h : List AObj} {v : AV} (hx : ev (look l) x = .ptr j off) (hj : h[j]? = some (.row cells)) (hv : loadF T t cells off = some v) (hd : Nat.blt d N = true) (hr : j ∈ rd i) (hw : wr i = [])
    (hk : AWd P E N ops rd wr Q rest (i + 1) (look ((d, v) :: l)) h) : AWd P E N ops rd wr Q (⟨some d, .load t x, ty, pos, after, none⟩ :: rest) i (look l) h := by
  refine ⟨v, [], fun k h1 h2 => ?_, by rw [hw, updH_nil]; exact hk⟩
  rw [hw]
  simp only [updH_nil]
  rw [loadF_eq] at hv
  exact ⟨hd, OpR_of_S (load_ok hT rfl hx ((h2 j hr).trans hj) hv)⟩

/-- A store into one object. -/
theorem AWg_store {T : Tr} (hT : TOk P T) {rd wr : Nat → List Nat} {ops : List Oper} {Q : (Nat → AV) → List AObj → Prop} {i t j off : Nat} {x y : Operand} {ty : TypeId} {pos : String} {after : Array Edge} {rest : List Oper} {cells cells' : List AV}
    {l : List (Nat × AV)} {h : List AObj} (hx : ev (look l) x = .ptr j off) (hj : h[j]? = some (.row cells)) (hv : storeF T t cells off (ev (look l) y) = some cells') (hr : j ∈ rd i) (hw : wr i = [j])
    (hk : AWd P E N ops rd wr Q rest (i + 1) (look l) (h.set j (.row cells'))) : AWd P E N ops rd wr Q (⟨none, .store t x y, ty, pos, after, none⟩ :: rest) i (look l) h := by
  refine ⟨.any, [.row cells'], fun k h1 h2 => ?_, by rw [hw]; exact hk⟩
  rw [hw]
  rw [storeF_eq] at hv
  exact ⟨rfl, OpR_of_S (store_ok hT rfl hx ((h2 j hr).trans hj) hv)⟩

/-- A step by a contract that holds over every heap that agrees in what is read. -/
theorem AWg_op {rd wr : Nat → List Nat} {ops : List Oper} {Q : (Nat → AV) → List AObj → Prop} {i : Nat} {dst : Option Tmp} {op : Op} {ty : TypeId} {pos : String} {after : Array Edge} {rest : List Oper}
    {l : List (Nat × AV)} {h os : List AObj} {v : AV} (hs : ∀ k : List AObj, k.length = h.length → (∀ j, j ∈ rd i → k[j]? = h[j]?) → OpS P E ⟨dst, op, ty, pos, after, none⟩ (ev (look l)) k v (updH k (wr i) os)) (hd : dstOk N ⟨dst, op, ty, pos, after, none⟩ = true)
    (hk : AWd P E N ops rd wr Q rest (i + 1) (look (putL l dst v)) (updH h (wr i) os)) : AWd P E N ops rd wr Q (⟨dst, op, ty, pos, after, none⟩ :: rest) i (look l) h :=
  ⟨v, os, fun k h1 h2 => ⟨hd, OpR_of_S (hs k h1 h2)⟩, by rw [← look_putL]; exact hk⟩
end
end Tdoc
/- Contracts: what a function does to abstract values, its body, its calls. No program is named here. -/
set_option linter.unusedSimpArgs false
set_option linter.unusedVariables false
namespace Tdoc
open Go

/-! ### names of objects -/
def renT (f : Nat → Nat) : Tok → Tok
  | .right i => .right (f i)
  | t => t

mutual
def ren (f : Nat → Nat) : AV → AV
  | .d x => .d x
  | .sl sz es tok => .sl sz es (renT f tok)
  | .nils => .nils
  | .ptr i off => .ptr (f i) off
  | .iptr cs => .iptr cs
  | .nilp => .nilp
  | .row i off n cap => .row (f i) off n cap
  | .bm i n => .bm (f i) n
  | .bp i n m => .bp (f i) n m
  | .fn g a b => .fn g (renL f a) (renL f b)
  | .nilf => .nilf
  | .ifc b => .ifc b
  | .agg cs => .agg (renL f cs)
  | .tup vs => .tup (renL f vs)
  | .gd b v => .gd b (ren f v)
  | .any => .any
def renL (f : Nat → Nat) : List AV → List AV
  | [] => []
  | a :: l => ren f a :: renL f l
end

def lowT (k : Nat) : Tok → Bool
  | .right i => Nat.blt i k
  | _ => true

mutual
def low (k : Nat) : AV → Bool
  | .d _ => true
  | .sl _ _ tok => lowT k tok
  | .nils => true
  | .ptr i _ => Nat.blt i k
  | .iptr _ => true
  | .nilp => true
  | .row i _ _ _ => Nat.blt i k
  | .bm i _ => Nat.blt i k
  | .bp i _ _ => Nat.blt i k
  | .fn _ a b => lowL k a && lowL k b
  | .nilf => true
  | .ifc _ => true
  | .agg cs => lowL k cs
  | .tup vs => lowL k vs
  | .gd _ v => low k v
  | .any => true
def lowL (k : Nat) : List AV → Bool
  | [] => true
  | a :: l => low k a && lowL k l
end

theorem renL_at (f : Nat → Nat) : ∀ (l : List AV) (j : Nat), (renL f l)[j]? = (l[j]?).map (ren f)
  | [], j => by simp [renL]
  | a :: l, 0 => by simp [renL]
  | a :: l, j + 1 => by simpa [renL] using renL_at f l j
theorem renL_length (f : Nat → Nat) : ∀ (l : List AV), (renL f l).length = l.length
  | [] => rfl
  | a :: l => by simp [renL, renL_length f l]
theorem lowL_at {k : Nat} : ∀ {l : List AV} {j : Nat} {x : AV}, lowL k l = true → l[j]? = some x → low k x = true
  | [], j, x, _, h => by simp at h
  | a :: l, 0, x, h, hx => by simp at hx; subst hx; simp [lowL] at h; exact h.1
  | a :: l, j + 1, x, h, hx => by simp [lowL] at h; exact lowL_at h.2 (by simpa using hx)

def renO (f : Nat → Nat) : AObj → AObj
  | .row cells => .row (renL f cells)
  | .buf sz n cells => .buf sz n (renL f cells)
  | .right sz n => .right sz n
  | .dead => .dead
  | .room => .room
  | .opq R => .opq R
def lowO (k : Nat) : AObj → Bool
  | .row cells => lowL k cells
  | .buf _ _ cells => lowL k cells
  | _ => true
def lowH (k : Nat) : List AObj → Bool
  | [] => true
  | o :: l => lowO k o && lowH k l
theorem lowH_at {k : Nat} : ∀ {l : List AObj} {j : Nat} {x : AObj}, lowH k l = true → l[j]? = some x → lowO k x = true
  | [], j, x, _, h => by simp at h
  | a :: l, 0, x, h, hx => by simp at hx; subst hx; simp [lowH] at h; exact h.1
  | a :: l, j + 1, x, h, hx => by simp [lowH] at h; exact lowH_at h.2 (by simpa using hx)

/-- Two ghost states that speak alike of some objects, under other names. -/
structure Alike (k : Nat) (f : Nat → Nat) (G G' : Gh) : Prop where
  imm : ∀ a v, G.imm a = some v → G'.imm a = some v
  loc : ∀ i b, i < k → G.loc i = some b → G'.loc (f i) = some b
  rt : ∀ i n x, i < k → G.rt i n = some x → G'.rt (f i) n = some x

theorem blt_lt {a b : Nat} (h : Nat.blt a b = true) : a < b := Nat.le_of_ble_eq_true h

theorem RepA.alike {k : Nat} {f : Nat → Nat} {G G' : Gh} (ha : Alike k f G G') {x : AV} {v : Value} (h : RepA G x v) : low k x = true → RepA G' (ren f x) v := by
  induction h with
  | d r => intro _; exact .d (r.mono ha.imm)
  | @sl sz es tok v r t =>
    intro hl
    refine .sl (r.mono ha.imm) ?_
    cases tok with
    | none => trivial
    | full => exact t
    | right i =>
      obtain ⟨a, cap, hv, hr⟩ := t
      exact ⟨a, cap, hv, ha.rt _ _ _ (blt_lt hl) hr⟩
  | nils => intro _; exact .nils
  | ptr off hl => intro h; exact .ptr off (ha.loc _ _ (blt_lt h) hl)
  | iptr a vs h1 h2 h3 => intro _; exact .iptr a vs h1 (fun j d hd => ha.imm _ _ (h2 j d hd)) (fun j d hd => (h3 j d hd).mono ha.imm)
  | nilp => intro _; exact .nilp
  | row off n cap hl => intro h; exact .row off n cap (ha.loc _ _ (blt_lt h) hl)
  | bm a cap hr hz => intro h; exact .bm a cap (ha.rt _ _ _ (blt_lt h) hr) hz
  | bp p cap k hr => intro h; exact .bp p cap k (ha.rt _ _ _ (blt_lt h) hr)
  | fn g fs cs h1 h2 _ _ ih1 ih2 =>
    intro hl
    simp only [low, Bool.and_eq_true] at hl
    refine .fn g fs cs (by rw [renL_length]; exact h1) (by rw [renL_length]; exact h2) (fun j x v hx hv => ?_) (fun j x v hx hv => ?_)
    · rw [renL_at, Option.map_eq_some_iff] at hx
      obtain ⟨y, hy, rfl⟩ := hx
      exact ih1 j y v hy hv (lowL_at hl.1 hy)
    · rw [renL_at, Option.map_eq_some_iff] at hx
      obtain ⟨y, hy, rfl⟩ := hx
      exact ih2 j y v hy hv (lowL_at hl.2 hy)
  | nilf => intro _; exact .nilf
  | ifc h => intro _; exact .ifc h
  | agg vs h1 _ h3 ih =>
    intro hl
    refine .agg vs (by rw [renL_length]; exact h1) (fun j x v hx hv => ?_) h3
    rw [renL_at, Option.map_eq_some_iff] at hx
    obtain ⟨y, hy, rfl⟩ := hx
    exact ih j y v hy hv (lowL_at hl hy)
  | tup vs h1 _ ih =>
    intro hl
    refine .tup vs (by rw [renL_length]; exact h1) (fun j x v hx hv => ?_)
    rw [renL_at, Option.map_eq_some_iff] at hx
    obtain ⟨y, hy, rfl⟩ := hx
    exact ih j y v hy hv (lowL_at hl hy)
  | gd _ hu ih => intro hl; exact .gd (fun hb => ih hb hl) hu
  | any v => intro _; exact .any v

mutual
theorem ren_id (f : Nat → Nat) (hf : ∀ i, f i = i) : ∀ (x : AV), ren f x = x
  | .d x => rfl
  | .sl sz es tok => by cases tok <;> simp [ren, renT, hf]
  | .nils => rfl
  | .ptr i off => by simp [ren, hf]
  | .iptr cs => rfl
  | .nilp => rfl
  | .row i off n cap => by simp [ren, hf]
  | .bm i n => by simp [ren, hf]
  | .bp i n m => by simp [ren, hf]
  | .fn g a b => by simp [ren, renL_id f hf a, renL_id f hf b]
  | .nilf => rfl
  | .ifc _ => rfl
  | .agg cs => by simp [ren, renL_id f hf cs]
  | .tup vs => by simp [ren, renL_id f hf vs]
  | .gd b v => by simp [ren, ren_id f hf v]
  | .any => rfl
theorem renL_id (f : Nat → Nat) (hf : ∀ i, f i = i) : ∀ (l : List AV), renL f l = l
  | [] => rfl
  | a :: l => by simp [renL, ren_id f hf a, renL_id f hf l]
end

/-- The reverse: what is told under the other names. -/
structure Back (k : Nat) (f : Nat → Nat) (G G' : Gh) : Prop where
  imm : ∀ a v, G'.imm a = some v → G.imm a = some v
  loc : ∀ i b, i < k → G'.loc (f i) = some b → G.loc i = some b
  rt : ∀ i n x, i < k → G'.rt (f i) n = some x → G.rt i n = some x

theorem RepA.back {k : Nat} {f : Nat → Nat} {G G' : Gh} (hb : Back k f G G') {y : AV} {v : Value} (h : RepA G' y v) : ∀ x, y = ren f x → low k x = true → RepA G x v := by
  induction h with
  | d r => intro x hx hl; cases x <;> simp [ren] at hx; subst hx; exact .d (r.mono hb.imm)
  | @sl sz es tok v r t =>
    intro x hx hl
    cases x <;> simp [ren] at hx
    obtain ⟨rfl, rfl, rfl⟩ := hx
    rename_i tok'
    refine .sl (r.mono hb.imm) ?_
    cases tok' with
    | none => trivial
    | full => exact t
    | right i =>
      obtain ⟨a, cap, hv, hr⟩ := t
      exact ⟨a, cap, hv, hb.rt _ _ _ (blt_lt hl) hr⟩
  | nils => intro x hx hl; cases x <;> simp [ren] at hx; exact .nils
  | ptr off hloc => intro x hx hl; cases x <;> simp [ren] at hx; obtain ⟨rfl, rfl⟩ := hx; exact .ptr _ (hb.loc _ _ (blt_lt hl) hloc)
  | iptr a vs h1 h2 h3 => intro x hx hl; cases x <;> simp [ren] at hx; subst hx; exact .iptr a vs h1 (fun j d hd => hb.imm _ _ (h2 j d hd)) (fun j d hd => (h3 j d hd).mono hb.imm)
  | nilp => intro x hx hl; cases x <;> simp [ren] at hx; exact .nilp
  | row off n cap hloc => intro x hx hl; cases x <;> simp [ren] at hx; obtain ⟨rfl, rfl, rfl, rfl⟩ := hx; exact .row _ _ _ (hb.loc _ _ (blt_lt hl) hloc)
  | bm a cap hr hz => intro x hx hl; cases x <;> simp [ren] at hx; obtain ⟨rfl, rfl⟩ := hx; exact .bm _ _ (hb.rt _ _ _ (blt_lt hl) hr) hz
  | bp p cap k hr => intro x hx hl; cases x <;> simp [ren] at hx; obtain ⟨rfl, rfl, rfl⟩ := hx; exact .bp _ _ _ (hb.rt _ _ _ (blt_lt hl) hr)
  | fn g fs cs h1 h2 _ _ ih1 ih2 =>
    intro x hx hl
    cases x <;> simp [ren] at hx
    obtain ⟨rfl, rfl, rfl⟩ := hx
    simp only [low, Bool.and_eq_true] at hl
    rw [renL_length] at h1 h2
    refine .fn _ fs cs h1 h2 (fun j x v hx hv => ?_) (fun j x v hx hv => ?_)
    · exact ih1 j (ren f x) v (by rw [renL_at, hx]; rfl) hv x rfl (lowL_at hl.1 hx)
    · exact ih2 j (ren f x) v (by rw [renL_at, hx]; rfl) hv x rfl (lowL_at hl.2 hx)
  | nilf => intro x hx hl; cases x <;> simp [ren] at hx; exact .nilf
  | ifc h => intro x hx hl; cases x <;> simp [ren] at hx; subst hx; exact .ifc h
  | agg vs h1 _ h3 ih =>
    intro x hx hl
    cases x <;> simp [ren] at hx
    subst hx
    rw [renL_length] at h1
    exact .agg vs h1 (fun j x v hx hv => ih j (ren f x) v (by rw [renL_at, hx]; rfl) hv x rfl (lowL_at hl hx)) h3
  | tup vs h1 _ ih =>
    intro x hx hl
    cases x <;> simp [ren] at hx
    subst hx
    rw [renL_length] at h1
    exact .tup vs h1 (fun j x v hx hv => ih j (ren f x) v (by rw [renL_at, hx]; rfl) hv x rfl (lowL_at hl hx))
  | gd _ hu ih => intro x hx hl; cases x <;> simp [ren] at hx; obtain ⟨rfl, rfl⟩ := hx; exact .gd (fun hb' => ih hb' _ rfl hl) hu
  | any v => intro x hx hl; cases x <;> simp [ren] at hx; exact .any v

/-! ### contracts -/
def Spec (P : Program) (f : FuncId) (args : List AV) (h : List AObj) (Q : AV → List AObj → Prop) : Prop :=
  (∃ fn, P.funcs[f]? = some fn ∧ (fn.name == "runtime.NumGoroutine") = false ∧ fn.body.isNone = false) ∧
  ∀ (G : Gh) (w : World) (vals : Array Value), vals.size = args.length → (∀ (j : Nat) (x : AV) (v : Value), args[j]? = some x → vals[j]? = some v → RepA G x v) →
    ∀ htab : TabOk w G, WRel ⟨w, G, htab⟩ G h w → Calls P f vals w (fun e w' => ∃ v r h' G', e = .returned v ∧ Q r h' ∧ h'.length = h.length ∧ low h.length r = true ∧ lowH h.length h' = true ∧ RepA G' r v ∧ WRel ⟨w, G, htab⟩ G' h' w')

theorem Spec.mono {P : Program} {f : FuncId} {args : List AV} {h : List AObj} {Q Q' : AV → List AObj → Prop} (H : Spec P f args h Q) (hq : ∀ r h', Q r h' → Q' r h') : Spec P f args h Q' :=
  ⟨H.1, fun G w vals h1 h2 ht h3 => (H.2 G w vals h1 h2 ht h3).mono fun e w' ⟨v, r, h', G', k1, k2, k3⟩ => ⟨v, r, h', G', k1, hq _ _ k2, k3⟩⟩

def pars : List AV → Nat → List (Nat × AV)
  | [], _ => []
  | a :: l, k => (k, a) :: pars l (k + 1)

theorem look_pars : ∀ (l : List AV) (k t : Nat), look (pars l k) t = if k ≤ t ∧ t < k + l.length then (l[t - k]?).getD .any else .any
  | [], k, t => by simp [pars, look]
  | a :: l, k, t => by
    unfold pars look
    cases hb : Nat.beq t k with
    | true =>
      obtain rfl := Nat.eq_of_beq_eq_true hb
      simp
    | false =>
      have hne : t ≠ k := fun hh => by subst hh; rw [Nat.beq_refl] at hb; cases hb
      show look (pars l (k + 1)) t = _
      rw [look_pars l (k + 1) t]
      simp only [List.length_cons]
      by_cases h1 : k + 1 ≤ t ∧ t < k + 1 + l.length
      · rw [if_pos h1, if_pos (by omega)]
        rw [show t - k = (t - (k + 1)) + 1 by omega]; simp
      · rw [if_neg h1, if_neg (by omega)]

/-! results -/
def resOne (T : Tr) (τ : Nat → AV) (h : List AObj) : ResultVar → Option AV
  | .tmp t => some (τ t)
  | .cell a t => match τ a with
    | .ptr i off => match h[i]? with
      | some (.row cells) => loadF T t cells off
      | _ => none
    | _ => none

def resAll (T : Tr) (τ : Nat → AV) (h : List AObj) : List ResultVar → Option (List AV)
  | [] => some []
  | x :: l => match resOne T τ h x with
    | some v => match resAll T τ h l with
      | some r => some (v :: r)
      | none => none
    | none => none

def resA (T : Tr) (τ : Nat → AV) (h : List AObj) (l : List ResultVar) : Option AV := match resAll T τ h l with
  | some [v] => some v
  | some vs => some (.tup vs)
  | none => none

section
variable {P : Program} {T : Tr}

theorem resOne_run (hT : TOk P T) {E : Env} {G : Gh} {h : List AObj} {w : World} {τ : Nat → AV} {tmps : Array Value} (hw : WRel E G h w) (ht : ∀ t, RepA G (τ t) (tmps.getD t undef)) {x : ResultVar} {v : AV} (hx : resOne T τ h x = some v) :
    ∃ u, (match x with | .tmp t => pure (tmps.getD t undef) | .cell a t => do loadVar t (← asAddr (tmps.getD a undef)) : Sem Value).run P w = .ok u w ∧ RepA G v u := by
  cases x with
  | tmp t => simp only [resOne, Option.some.injEq] at hx; subst hx; exact ⟨_, rfl, ht t⟩
  | cell a t =>
    simp only [resOne] at hx
    split at hx
    · rename_i i off hp
      split at hx
      · rename_i cells hi
        rw [loadF_eq] at hx
        have hpa := ht a
        rw [hp] at hpa
        obtain ⟨b, hb, hl⟩ := hpa.ptr_inv
        have hop := load_ok (E := E) (h := h) hT (o := ⟨none, .load t (.tmp a), 0, "", #[], none⟩) (ρ := ev τ) (i := i) (off := off) rfl hp hi hx
        -- the load's own run
        have := hop G ⟨tmps, []⟩ w hw (fun y hy => eval_rep (a := ⟨tmps, []⟩) (E.tab.1.mono hw.le.imm) ht y)
        unfold Oper.wp execOp at this
        simp only [Instr.loadAt, Sem.run_bind, Act.eval, hb, Instr.sureAddr, Sem.run_pure, Result.andThen_ok] at this
        simp only [hb, asAddr, Sem.run_bind, Sem.run_pure, Result.andThen_ok]
        -- loads leave the world alone
        obtain ⟨b', hl', hown, hrow, himm⟩ := hw.obj i _ hi
        rw [hl] at hl'; cases hl'
        unfold loadA at hx
        split at hx
        · rename_i ti hf
          have hti := hT.at hf
          split at hx
          · rename_i hagg
            split at hx
            · rename_i hble
              have hle := Nat.le_of_ble_eq_true hble
              cases hx
              have hcell : ∀ j, j < ti.size → ∃ u, w.cell? ⟨b, off + j, none⟩ = some u ∧ oneC u = true ∧ RepA G (cells[off + j]?.getD .any) u := by
                intro j hj
                have hc : cells[off + j]? = some cells[off + j] := by simp [show off + j < cells.length by omega]
                obtain ⟨u, h1, h2, h3, _⟩ := hrow _ _ hc
                exact ⟨u, h1, h2, by rw [hc]; exact h3⟩
              let f : Nat → Value := fun j => (w.cell? ⟨b, off + j, none⟩).getD undef
              have hld : (loadCells ⟨b, off, none⟩ ti.size).run P w = .ok ((List.range ti.size).map f).toArray w := by
                refine run_loadCells (P := P) w _ _ f (fun j hj => ?_)
                obtain ⟨u, h1, _⟩ := hcell j hj
                rw [add_mk]; simp [f, h1]
              refine ⟨.agg ((List.range ti.size).map f).toArray, by simp [loadVar, hti.run_agg, hagg, hti.run_size, hld], .agg _ (by simp; omega) (fun j c y hc hy => ?_) (fun j y hy => ?_)⟩
              · simp only [List.getElem?_take, List.getElem?_drop] at hc
                split at hc
                · rename_i hj
                  obtain ⟨u, h1, h2, h3⟩ := hcell j hj
                  simp [hj, f, h1] at hy
                  subst hy
                  rw [hc] at h3; exact h3
                · cases hc
              · by_cases hj : j < ti.size
                · obtain ⟨u, h1, h2, h3⟩ := hcell j hj
                  simp [hj, f, h1] at hy
                  subst hy; exact h2
                · simp [hj] at hy
            · cases hx
          · rename_i hagg
            obtain ⟨u, h1, h2, h3, _⟩ := hrow _ _ hx
            exact ⟨u, by simp [loadVar, hti.run_agg, hagg, h1], h3⟩
        · cases hx
      · cases hx
    · cases hx

theorem resAll_run (hT : TOk P T) {E : Env} {G : Gh} {h : List AObj} {w : World} {τ : Nat → AV} {tmps : Array Value} (hw : WRel E G h w) (ht : ∀ t, RepA G (τ t) (tmps.getD t undef)) : ∀ {l : List ResultVar} {vs : List AV}, resAll T τ h l = some vs →
    ∃ us : List Value, (l.mapM (fun x => (match x with | .tmp t => pure (tmps.getD t undef) | .cell a t => do loadVar t (← asAddr (tmps.getD a undef)) : Sem Value))).run P w = .ok us w ∧ us.length = vs.length ∧
      ∀ (j : Nat) (x : AV) (u : Value), vs[j]? = some x → us[j]? = some u → RepA G x u
  | [], vs, h => by simp [resAll] at h; subst h; exact ⟨[], by simp, rfl, fun j x u h => by simp at h⟩
  | x :: l, vs, hv => by
    unfold resAll at hv
    split at hv
    · rename_i v hx
      split at hv
      · rename_i r hr
        cases hv
        obtain ⟨u, hu, hru⟩ := resOne_run hT hw ht hx
        obtain ⟨us, h1, h2, h3⟩ := resAll_run hT hw ht hr
        refine ⟨u :: us, ?_, by simp [h2], fun j y z hy hz => ?_⟩
        · simp only [List.mapM_cons, Sem.run_bind, hu, Result.andThen_ok, h1, Sem.run_pure]
        · cases j with
          | zero => simp at hy hz; subst hy; subst hz; exact hru
          | succ j => exact h3 j y z (by simpa using hy) (by simpa using hz)
      · cases hv
    · cases hv

theorem resA_run (hT : TOk P T) {E : Env} {G : Gh} {h : List AObj} {w : World} {τ : Nat → AV} {tmps : Array Value} (hw : WRel E G h w) (ht : ∀ t, RepA G (τ t) (tmps.getD t undef)) {fn : Func} {l : List ResultVar} (hfn : fn.results = l.toArray) {v : AV} (hv : resA T τ h l = some v) :
    ∃ u, (results fn tmps).run P w = .ok u w ∧ RepA G v u := by
  unfold resA at hv
  split at hv
  · rename_i v0 hr
    cases hv
    obtain ⟨us, h1, h2, h3⟩ := resAll_run hT hw ht hr
    obtain ⟨u, rfl⟩ : ∃ u, us = [u] := by
      cases us with
      | nil => simp at h2
      | cons u r => cases r with
        | nil => exact ⟨u, rfl⟩
        | cons _ _ => simp at h2
    refine ⟨u, ?_, h3 0 v u rfl rfl⟩
    unfold results
    rw [hfn, List.mapM_toArray]
    simp only [Sem.run_bind, Sem.run_map]
    erw [h1]
    simp
  · rename_i vs hne hr
    cases hv
    obtain ⟨us, h1, h2, h3⟩ := resAll_run hT hw ht hr
    have hlen : us.length ≠ 1 := by
      intro hh
      rw [h2] at hh
      obtain ⟨v0, rfl⟩ := List.length_eq_one_iff.1 hh
      exact hne v0 rfl
    refine ⟨.tuple us.toArray, ?_, .tup _ (by simp [h2]) (fun j x u hx hu => h3 j x u hx (by simpa using hu))⟩
    unfold results
    rw [hfn, List.mapM_toArray]
    simp only [Sem.run_bind, Sem.run_map]
    erw [h1]
    simp [hlen]
  · cases hv
end
end Tdoc
/- Bodies and calls. No program is named here. -/
set_option linter.unusedSimpArgs false
set_option linter.unusedVariables false
namespace Tdoc
open Go

/-- Objects from k on are forgotten. -/
def cutG (k : Nat) (G : Gh) : Gh :=
  { G with loc := fun i => if i < k then G.loc i else none, rt := fun i n => if i < k then G.rt i n else none }

theorem cut_alike (k : Nat) (G : Gh) : Alike k (fun i => i) G (cutG k G) :=
  ⟨fun _ _ h => h, fun i b hi h => by show (if i < k then G.loc i else none) = some b; rw [if_pos hi]; exact h, fun i n x hi h => by show (if i < k then G.rt i n else none) = some x; rw [if_pos hi]; exact h⟩

theorem RepA.cut {k : Nat} {G : Gh} {x : AV} {v : Value} (h : RepA G x v) (hl : low k x = true) : RepA (cutG k G) x v := by
  have := h.alike (cut_alike k G) hl
  rwa [ren_id _ (fun _ => rfl)] at this

/-- Where the entry's objects are: none from k0 on. -/
def Env.below (E : Env) (k : Nat) : Prop := ∀ i, k ≤ i → E.G0.loc i = none ∧ ∀ n, E.G0.rt i n = none

theorem WRel.cut {E : Env} {G : Gh} {h h' : List AObj} {w : World} {k : Nat} (hw : WRel E G h w) (hk : E.below k) (hlen : h'.length = k) (hp : ∀ i, i < k → h'[i]? = h[i]?) (hl : lowH k h' = true) : WRel E (cutG k G) h' w := by
  refine ⟨⟨hw.le.imm, fun i b hb => ?_, fun i n x hx => ?_, hw.le.own⟩, hw.imm, hw.immNew, hw.keep, hw.size, hw.os, hw.tape, hw.output, hw.own, fun i hi => ?_, fun i ob hi => ?_⟩
  · show (if i < k then G.loc i else none) = some b
    by_cases hik : i < k
    · rw [if_pos hik]; exact hw.le.loc _ _ hb
    · rw [(hk i (by omega)).1] at hb; cases hb
  · show (if i < k then G.rt i n else none) = some x
    by_cases hik : i < k
    · rw [if_pos hik]; exact hw.le.rt _ _ _ hx
    · rw [(hk i (by omega)).2 n] at hx; cases hx
  · rw [hlen] at hi
    exact ⟨by show (if i < k then G.loc i else none) = none; rw [if_neg (by omega)], fun n => by show (if i < k then G.rt i n else none) = none; rw [if_neg (by omega)]⟩
  · have hik : i < k := by rw [← hlen]; exact (List.getElem?_eq_some_iff.1 hi).1
    have hlo := lowH_at hl hi
    rw [hp i hik] at hi
    have hob := hw.obj i ob hi
    cases ob with
    | dead => trivial
    | room => exact ⟨by show (if i < k then G.loc i else none) = none; rw [if_pos hik]; exact hob.1, fun n => by show (if i < k then G.rt i n else none) = none; rw [if_pos hik]; exact hob.2 n⟩
    | opq R =>
      obtain ⟨b, S, h1, h2, h3, h4, h5, h6⟩ := hob
      exact ⟨b, S, (cut_alike k G).loc i b hik h1, h2, fun n => by show (if i < k then G.rt i n else none) = none; rw [if_pos hik]; exact h3 n, h4, h5, h6⟩
    | row cells =>
      obtain ⟨b, h1, h2, h3, h4⟩ := hob
      refine ⟨b, (cut_alike k G).loc i b hik h1, h2, fun j c hj => ?_, h4.1, fun n => by show (if i < k then G.rt i n else none) = none; rw [if_pos hik]; exact h4.2 n⟩
      obtain ⟨v, q1, q2, q3, q4⟩ := h3 j c hj
      exact ⟨v, q1, q2, q3.cut (lowL_at hlo hj), q4⟩
    | buf sz n cells =>
      obtain ⟨a, cap, h1, h2, h3⟩ := hob
      exact ⟨a, cap, (cut_alike k G).rt i n _ hik h1, fun n' hn => by show (if i < k then G.rt i n' else none) = none; rw [if_pos hik]; exact h2 n' hn,
        h3.trans rfl (fun b hb => ⟨hb, rfl, fun x _ hn => hn⟩) (fun j c hj => ⟨c, hj, fun v hv => hv.cut (lowL_at hlo hj)⟩)⟩
    | right sz n =>
      obtain ⟨a, cap, h1, h2, h3, h4⟩ := hob
      exact ⟨a, cap, (cut_alike k G).rt i n _ hik h1, h2, fun n' hn => by show (if i < k then G.rt i n' else none) = none; rw [if_pos hik]; exact h3 n' hn, h4⟩

/-- What is told at the end of a body. -/
def retP (T : Tr) (rs : List ResultVar) (k : Nat) (Q : AV → List AObj → Prop) : Exit → (Nat → AV) → List AObj → Prop
  | .normal, τ, h => ∃ v r h', resA T τ h rs = some v ∧ (∀ G x, RepA G v x → RepA G r x) ∧ h' = h.take k ∧ h'.length = k ∧ low k r = true ∧ lowH k h' = true ∧ Q r h'
  | .ret, τ, h => ∃ v r h', resA T τ h rs = some v ∧ (∀ G x, RepA G v x → RepA G r x) ∧ h' = h.take k ∧ h'.length = k ∧ low k r = true ∧ lowH k h' = true ∧ Q r h'
  | _, _, _ => False

theorem Spec_of_body {P : Program} {T : Tr} (hT : TOk P T) {f : FuncId} {fn : Func} {c : Code} {rs : List ResultVar} {args : List AV} {h : List AObj} {Q : AV → List AObj → Prop} (hf : P.funcs[f]? = some fn) (hb : fn.body = some c)
    (hname : (fn.name == "runtime.NumGoroutine") = false) (hrs : fn.results = rs.toArray) (hn : Nat.ble args.length fn.ntmps = true)
    (H : ∀ E : Env, E.below h.length → AW P E fn.ntmps c (retP T rs h.length Q) (look (pars args 0)) h) : Spec P f args h Q := by
  refine ⟨⟨fn, hf, hname, by rw [hb]; rfl⟩, fun G w vals hvs hargs htab hw => ?_⟩
  have hbel : (⟨w, G, htab⟩ : Env).below h.length := fun i hi => hw.fresh i hi
  have hle := Nat.le_of_ble_eq_true hn
  refine calls_of_wp hf hb (wp_mono (H ⟨w, G, htab⟩ hbel _ w ⟨by simp; omega, rfl, G, hw, fun t => ?_⟩) ?_)
  · rw [look_pars]
    by_cases ht : 0 ≤ t ∧ t < 0 + args.length
    · rw [if_pos ht]
      have ht2 : t < args.length := by omega
      have h1 : args[t]? = some args[t] := by simp [ht2]
      have h2 : vals[t]? = some vals[t] := by simp [hvs, ht2]
      have := hargs t _ _ h1 h2
      simp only [Nat.sub_zero, h1, Option.getD_some]
      have hget : (vals ++ Array.replicate (fn.ntmps - vals.size) undef).getD t undef = vals[t] := by
        rw [Array.getD_eq_getD_getElem?, Array.getElem?_append_left (by omega), h2]; rfl
      rw [hget]; exact this
    · rw [if_neg ht]; exact .any _
  · rintro e a' w' ⟨τ', h', hq, hr⟩
    have fin : (∃ v r h'', resA T τ' h' rs = some v ∧ (∀ G x, RepA G v x → RepA G r x) ∧ h'' = h'.take h.length ∧ h''.length = h.length ∧ low h.length r = true ∧ lowH h.length h'' = true ∧ Q r h'') →
        a'.defers = [] ∧ ∃ v, (results fn a'.tmps).run P w' = .ok v w' ∧ ∃ v_1 r h' G', Ending.returned v = .returned v_1 ∧ Q r h' ∧ h'.length = h.length ∧ low h.length r = true ∧ lowH h.length h' = true ∧ RepA G' r v_1 ∧ WRel ⟨w, G, htab⟩ G' h' w' := by
      rintro ⟨v, r, h'', q1, q2, q3, q4, q5, q6, q7⟩
      obtain ⟨r1, r2, G', hw', ht⟩ := hr
      obtain ⟨u, hu, hru⟩ := resA_run hT hw' ht hrs q1
      refine ⟨r2, u, hu, u, r, h'', cutG h.length G', rfl, q7, q4, q5, q6, (q2 _ _ hru).cut q5, hw'.cut hbel q4 (fun i hi => ?_) q6⟩
      rw [q3, List.getElem?_take, if_pos hi]
    cases e with
    | normal => exact fin hq
    | ret => exact fin hq
    | exit id => exact hq.elim
    | goto l => exact hq.elim
    | panic ch => exact hq.elim
    | outgrown => exact hq.elim

/-! ### calls -/

/-- The objects that are handed to a callee, in its own numbering. -/
def fsf (fs : List Nat) (i : Nat) : Nat := fs.getD i 0

def idx (fs : List Nat) (j : Nat) : Option Nat := fs.idxOf? j

def calleeG (fs : List Nat) (G : Gh) : Gh where
  imm := G.imm
  loc := fun i => if i < fs.length then G.loc (fsf fs i) else none
  rt := fun i n => if i < fs.length then G.rt (fsf fs i) n else none
  own := fun b => match G.own b with
    | some j => fs.idxOf? j
    | none => none

def callerG (fs : List Nat) (G Gc : Gh) : Gh where
  imm := Gc.imm
  loc := fun j => match fs.idxOf? j with
    | some i => Gc.loc i
    | none => G.loc j
  rt := fun j n => match fs.idxOf? j with
    | some i => Gc.rt i n
    | none => G.rt j n
  own := fun b => match Gc.own b with
    | some i => if i < fs.length then some (fsf fs i) else G.own b
    | none => G.own b

theorem idxOf_at : ∀ {fs : List Nat} {i : Nat}, fs.Nodup → i < fs.length → fs.idxOf? (fsf fs i) = some i
  | [], i, _, h => by simp at h
  | a :: fs, 0, _, _ => by simp [fsf, List.idxOf?_cons]
  | a :: fs, i + 1, hn, h => by
    simp only [List.nodup_cons] at hn
    simp only [List.length_cons] at h
    have hi : i < fs.length := by omega
    have hne : a ≠ fsf fs i := fun hh => hn.1 (by rw [hh]; unfold fsf; rw [List.getD_eq_getElem?_getD, List.getElem?_eq_getElem hi]; exact List.getElem_mem hi)
    have ih := idxOf_at hn.2 hi
    have : fsf (a :: fs) (i + 1) = fsf fs i := rfl
    rw [this, List.idxOf?_cons]
    simp [hne, ih]

theorem idxOf_some : ∀ {fs : List Nat} {j i : Nat}, fs.idxOf? j = some i → i < fs.length ∧ fsf fs i = j
  | [], j, i, h => by simp at h
  | a :: fs, j, i, h => by
    rw [List.idxOf?_cons] at h
    split at h
    · rename_i hh
      cases h
      simp at hh
      exact ⟨by simp, by simp [fsf, hh]⟩
    · rw [Option.map_eq_some_iff] at h
      obtain ⟨k, hk, rfl⟩ := h
      obtain ⟨h1, h2⟩ := idxOf_some hk
      exact ⟨by simp; omega, by simpa [fsf] using h2⟩

theorem idxOf_none_set {fs : List Nat} {j i : Nat} (h : fs.idxOf? j = none) (hi : i < fs.length) : fsf fs i ≠ j := by
  intro hh
  subst hh
  rw [List.idxOf?_eq_none_iff] at h
  refine h ?_
  unfold fsf
  rw [List.getD_eq_getElem?_getD, List.getElem?_eq_getElem hi]; exact List.getElem_mem hi

theorem updH_at : ∀ (fs : List Nat) (os h : List AObj) (i : Nat) (o : AObj), fs.Nodup → os[i]? = some o → i < fs.length → fsf fs i < h.length → (updH h fs os)[fsf fs i]? = some o
  | [], os, h, i, o, _, _, hi, _ => by simp at hi
  | a :: fs, [], h, i, o, _, ho, _, _ => by simp at ho
  | a :: fs, x :: os, h, 0, o, hn, ho, _, hl => by
    simp at ho; subst ho
    simp only [List.nodup_cons] at hn
    have : fsf (a :: fs) 0 = a := rfl
    rw [this] at hl ⊢
    rw [updH, updH_other fs os _ a hn.1]
    simp [hl]
  | a :: fs, x :: os, h, i + 1, o, hn, ho, hi, hl => by
    simp only [List.nodup_cons] at hn
    have : fsf (a :: fs) (i + 1) = fsf fs i := rfl
    rw [this] at hl ⊢
    rw [updH]
    exact updH_at fs os _ i o hn.2 (by simpa using ho) (by simpa using hi) (by simpa using hl)

theorem fsf_mem {fs : List Nat} {i : Nat} (h : i < fs.length) : fsf fs i ∈ fs := by
  unfold fsf; rw [List.getD_eq_getElem?_getD, List.getElem?_eq_getElem h]; exact List.getElem_mem h

/-- THE CALL. 'hc': the callee's objects in its own numbering; 'fs': where they lie with the caller. -/
theorem call_frame {P : Program} {f : FuncId} {args hargs : List AV} {hc H : List AObj} {Q : AV → List AObj → Prop} (S : Spec P f args hc Q) {fs : List Nat} (hnd : fs.Nodup) (hlen : fs.length = hc.length)
    (hobj : ∀ i, i < fs.length → H[fsf fs i]? = (hc[i]?).map (renO (fsf fs))) (hlow : lowH fs.length hc = true) (hargs' : hargs = renL (fsf fs) args) (hla : lowL fs.length args = true)
    {E : Env} {G : Gh} {w : World} (hw : WRel E G H w) {vals : Array Value} (hvs : vals.size = hargs.length) (hr : ∀ (j : Nat) (x : AV) (v : Value), hargs[j]? = some x → vals[j]? = some v → RepA G x v) :
    Calls P f vals w (fun e w' => ∃ v r h' G', e = .returned v ∧ Q r h' ∧ h'.length = hc.length ∧ G.le G' ∧ RepA G' (ren (fsf fs) r) v ∧ WRel E G' (updH H fs (h'.map (renO (fsf fs)))) w') := by
  let Gc := calleeG fs G
  have hin : ∀ i, i < fs.length → fsf fs i < H.length := fun i hi => by
    have := hobj i hi
    have h2 : hc[i]? = some hc[i] := by simp [← hlen, hi]
    rw [h2] at this
    exact (List.getElem?_eq_some_iff.1 this).1
  have hback : Back fs.length (fsf fs) Gc G := ⟨fun _ _ h => h, fun i b hi h => by show (if i < fs.length then G.loc (fsf fs i) else none) = some b; rw [if_pos hi]; exact h,
    fun i n x hi h => by show (if i < fs.length then G.rt (fsf fs i) n else none) = some x; rw [if_pos hi]; exact h⟩
  have hown : ∀ b i, Gc.own b = some i → G.own b = some (fsf fs i) ∧ i < fs.length := by
    intro b i hb
    have hb' : (match G.own b with | some j => fs.idxOf? j | none => none) = some i := hb
    split at hb'
    · rename_i j hj
      obtain ⟨h1, h2⟩ := idxOf_some hb'
      exact ⟨by rw [hj, h2], h1⟩
    · cases hb'
  have hown2 : ∀ b i, i < fs.length → G.own b = some (fsf fs i) → Gc.own b = some i := by
    intro b i hi hb
    show (match G.own b with | some j => fs.idxOf? j | none => none) = some i
    rw [hb]; exact idxOf_at hnd hi
  have htabc : TabOk w Gc := ⟨E.tab.1.mono hw.le.imm, hw.tabB fun b hb => by show (match G.own b with | some j => fs.idxOf? j | none => none) = none; rw [hb]⟩
  have hwc : WRel ⟨w, Gc, htabc⟩ Gc hc w := by
    refine ⟨.refl _, hw.imm, fun a v h => .inl h, fun _ _ => rfl, Nat.le_refl _, rfl, rfl, rfl, fun b i hb => ?_, fun i hi => ?_, fun i ob hi => ?_⟩
    · obtain ⟨h1, h2⟩ := hown b i hb
      exact ⟨(hw.own b _ h1).1, fun hk => by have hk2 : Gc.own b = none := hk.2; rw [hb] at hk2; cases hk2⟩
    · exact ⟨by show (if i < fs.length then _ else none) = none; rw [if_neg (by omega)], fun n => by show (if i < fs.length then _ else none) = none; rw [if_neg (by omega)]⟩
    · have hil : i < fs.length := by rw [hlen]; exact (List.getElem?_eq_some_iff.1 hi).1
      have hH := hobj i hil
      rw [hi] at hH
      simp only [Option.map_some] at hH
      have hlo := lowH_at hlow hi
      have hob := hw.obj _ _ hH
      cases ob with
      | dead => trivial
      | room => exact ⟨by show (if i < fs.length then G.loc (fsf fs i) else none) = none; rw [if_pos hil]; exact hob.1, fun n => by show (if i < fs.length then G.rt (fsf fs i) n else none) = none; rw [if_pos hil]; exact hob.2 n⟩
      | opq R =>
        obtain ⟨b, S, h1, h2, h3, h4, h5, h6⟩ := hob
        exact ⟨b, S, hback.loc i b hil h1, h2, fun n => by show (if i < fs.length then G.rt (fsf fs i) n else none) = none; rw [if_pos hil]; exact h3 n, fun k hk => ⟨hown2 k i hil (h4 k hk).1, (h4 k hk).2⟩, h5, h6⟩
      | row cells =>
        obtain ⟨b, h1, h2, h3, h4⟩ := hob
        refine ⟨b, hback.loc i b hil h1, hown2 b i hil h2, fun j c hj => ?_, h4.1, fun n => by show (if i < fs.length then G.rt (fsf fs i) n else none) = none; rw [if_pos hil]; exact h4.2 n⟩
        obtain ⟨v, q1, q2, q3, q4⟩ := h3 j (ren (fsf fs) c) (by rw [renL_at, hj]; rfl)
        exact ⟨v, q1, q2, q3.back hback c rfl (lowL_at hlo hj), q4⟩
      | buf sz n cells =>
        obtain ⟨a, cap, h1, h2, h3⟩ := hob
        refine ⟨a, cap, hback.rt i n _ hil h1, fun n' hn => by show (if i < fs.length then G.rt (fsf fs i) n' else none) = none; rw [if_pos hil]; exact h2 n' hn,
          h3.trans (by rw [renL_length]) (fun b hb => ⟨hown2 _ i hil hb, rfl, fun x _ hn => hn⟩) (fun j c hj => ⟨ren (fsf fs) c, by rw [renL_at, hj]; rfl, fun v hv => hv.back hback c rfl (lowL_at hlo hj)⟩)⟩
      | right sz n =>
        obtain ⟨a, cap, h1, h2, h3, h4⟩ := hob
        refine ⟨a, cap, hback.rt i n _ hil h1, h2, fun n' hn => ?_, fun hlt => ?_⟩
        · show (if i < fs.length then G.rt (fsf fs i) n' else none) = none
          rw [if_pos hil]; exact h3 n' hn
        · obtain ⟨p, p1, p2, p3, p4⟩ := h4 hlt
          exact ⟨p, p1, p2, hown2 _ i hil p3, p4⟩
  subst hargs'
  have hcall := S.2 Gc w vals (by rw [hvs, renL_length]) (fun j x v hx hv => (hr j (ren (fsf fs) x) v (by rw [renL_at, hx]; rfl) hv).back hback x rfl (lowL_at hla hx)) htabc hwc
  refine hcall.mono ?_
  rintro e w' ⟨v, r, h', Gc', rfl, hQ, hl', hlr, hlh, hrv, hw'⟩
  -- blocks that the callee must keep
  have hKc : ∀ b, b < w.heap.size → Gc.own b = none → (⟨w, Gc, htabc⟩ : Env).K b := fun b h1 h2 => ⟨h1, h2⟩
  have hEK : ∀ b, ¬ (⟨w, Gc, htabc⟩ : Env).K b → ¬ E.K b := by
    intro b hnk hk
    have hb : b < w.heap.size := Nat.lt_of_lt_of_le hk.1 hw.size
    cases ho : Gc.own b with
    | none => exact hnk (hKc b hb ho)
    | some i => exact (hw.own b _ (hown b i ho).1).2 hk
  have hEKc : ∀ b, E.K b → (⟨w, Gc, htabc⟩ : Env).K b := fun b hk => Classical.byContradiction fun hn => hEK b hn hk
  let G' := callerG fs G Gc'
  have hal : Alike fs.length (fsf fs) Gc' G' := ⟨fun _ _ h => h, fun i b hi h => by
      show (match fs.idxOf? (fsf fs i) with | some i => Gc'.loc i | none => G.loc _) = some b
      rw [idxOf_at hnd hi]; exact h, fun i n x hi h => by
      show (match fs.idxOf? (fsf fs i) with | some i => Gc'.rt i n | none => G.rt _ n) = some x
      rw [idxOf_at hnd hi]; exact h⟩
  have hle : G.le G' := by
    refine ⟨fun a v h => hw'.le.imm a v h, fun j b hb => ?_, fun j n x hx => ?_, fun b j hb => ?_⟩
    · show (match fs.idxOf? j with | some i => Gc'.loc i | none => G.loc j) = some b
      split
      · rename_i i hi
        obtain ⟨h1, h2⟩ := idxOf_some hi
        subst h2
        exact hw'.le.loc i b (hback.loc i b h1 hb)
      · exact hb
    · show (match fs.idxOf? j with | some i => Gc'.rt i n | none => G.rt j n) = some x
      split
      · rename_i i hi
        obtain ⟨h1, h2⟩ := idxOf_some hi
        subst h2
        exact hw'.le.rt i n x (hback.rt i n x h1 hx)
      · exact hx
    · show (match Gc'.own b with | some i => if i < fs.length then some (fsf fs i) else G.own b | none => G.own b) = some j
      have hbs := (hw.own b j hb).1
      cases hix : fs.idxOf? j with
      | some i =>
        obtain ⟨h1, h2⟩ := idxOf_some hix
        subst h2
        have := hw'.le.own b i (hown2 b i h1 hb)
        rw [this]; simp [h1]
      | none =>
        have hgn : Gc.own b = none := by
          show (match G.own b with | some j => fs.idxOf? j | none => none) = none
          rw [hb]; exact hix
        have : Gc'.own b = none := by
          cases ho : Gc'.own b with
          | none => rfl
          | some i => exact absurd (hKc b hbs hgn) (hw'.own b i ho).2
        rw [this]; exact hb
  have hlen' : (h'.map (renO (fsf fs))).length = fs.length := by simp [hl', hlen]
  refine ⟨v, r, h', G', rfl, hQ, hl', hle, hrv.alike hal (by rw [hlen]; exact hlr), ?_⟩
  refine ⟨hw.le.trans hle, hw'.imm, fun a v ha => ?_, fun b hb => ?_, Nat.le_trans hw.size hw'.size, hw'.os.trans hw.os, hw'.tape.trans hw.tape, hw'.output.trans hw.output, fun b j hb => ?_, fun j hj => ?_, fun j ob hj => ?_⟩
  · rcases hw'.immNew a v ha with h1 | h1
    · exact hw.immNew a v h1
    · exact .inr (hEK _ h1)
  · exact (hw'.keep b (hEKc b hb)).trans (hw.keep b hb)
  · have hb' : (match Gc'.own b with | some i => if i < fs.length then some (fsf fs i) else G.own b | none => G.own b) = some j := hb
    have old : G.own b = some j → b < w'.heap.size ∧ ¬ E.K b := fun h => by
      have := hw.own b j h; exact ⟨Nat.lt_of_lt_of_le this.1 hw'.size, this.2⟩
    split at hb'
    · rename_i i hi
      split at hb'
      · have := hw'.own b i hi
        exact ⟨this.1, hEK b this.2⟩
      · exact old hb'
    · exact old hb'
  · rw [updH_length] at hj
    have hf := hw.fresh j hj
    have hno : fs.idxOf? j = none := by
      cases hix : fs.idxOf? j with
      | none => rfl
      | some i => obtain ⟨h1, h2⟩ := idxOf_some hix; have := hin i h1; omega
    refine ⟨?_, fun n => ?_⟩
    · show (match fs.idxOf? j with | some i => Gc'.loc i | none => G.loc j) = none
      rw [hno]; exact hf.1
    · show (match fs.idxOf? j with | some i => Gc'.rt i n | none => G.rt j n) = none
      rw [hno]; exact hf.2 n
  · cases hix : fs.idxOf? j with
    | some i =>
      obtain ⟨h1, h2⟩ := idxOf_some hix
      subst h2
      obtain ⟨o', ho'⟩ : ∃ o', h'[i]? = some o' := ⟨h'[i]'(by omega), by simp [show i < h'.length by omega]⟩
      rw [updH_at fs _ H i (renO (fsf fs) o') hnd (by simp [ho']) h1 (hin i h1)] at hj
      cases hj
      have hob := hw'.obj i o' ho'
      have hlo := lowH_at hlh ho'
      have hown' : ∀ b, Gc'.own b = some i → G'.own b = some (fsf fs i) := fun b hb => by
        show (match Gc'.own b with | some i => if i < fs.length then some (fsf fs i) else G.own b | none => G.own b) = _
        rw [hb]; simp [h1]
      cases o' with
      | dead => trivial
      | room =>
        refine ⟨?_, fun n => ?_⟩
        · show (match fs.idxOf? (fsf fs i) with | some i => Gc'.loc i | none => G.loc _) = none
          rw [idxOf_at hnd h1]; exact hob.1
        · show (match fs.idxOf? (fsf fs i) with | some i => Gc'.rt i n | none => G.rt _ n) = none
          rw [idxOf_at hnd h1]; exact hob.2 n
      | opq R =>
        obtain ⟨b, S, q1, q2, q3, q4, q5, q6⟩ := hob
        exact ⟨b, S, hal.loc i b h1 q1, q2, fun n => by show (match fs.idxOf? (fsf fs i) with | some i => Gc'.rt i n | none => G.rt _ n) = none; rw [idxOf_at hnd h1]; exact q3 n, fun k hk => ⟨hown' k (q4 k hk).1, (q4 k hk).2⟩, q5, q6⟩
      | row cells =>
        obtain ⟨b, q1, q2, q3, q4⟩ := hob
        refine ⟨b, hal.loc i b h1 q1, hown' b q2, fun k c hk => ?_, q4.1, fun n => by show (match fs.idxOf? (fsf fs i) with | some i => Gc'.rt i n | none => G.rt _ n) = none; rw [idxOf_at hnd h1]; exact q4.2 n⟩
        rw [renL_at, Option.map_eq_some_iff] at hk
        obtain ⟨c', hc', rfl⟩ := hk
        obtain ⟨u, u1, u2, u3, u4⟩ := q3 k c' hc'
        exact ⟨u, u1, u2, u3.alike hal (by rw [hlen]; exact lowL_at hlo hc'), u4⟩
      | buf sz n cells =>
        obtain ⟨a, cap, q1, q2, q3⟩ := hob
        refine ⟨a, cap, hal.rt i n _ h1 q1, fun n' hn => by show (match fs.idxOf? (fsf fs i) with | some i => Gc'.rt i n' | none => G.rt _ n') = none; rw [idxOf_at hnd h1]; exact q2 n' hn,
          q3.trans (by rw [renL_length]) (fun b hb => ⟨hown' _ hb, rfl, fun x _ hn => hn⟩) (fun j c hj => ?_)⟩
        rw [renL_at, Option.map_eq_some_iff] at hj
        obtain ⟨c', hc', rfl⟩ := hj
        exact ⟨c', hc', fun v hv => hv.alike hal (by rw [hlen]; exact lowL_at hlo hc')⟩
      | right sz n =>
        obtain ⟨a, cap, q1, q2, q3, q4⟩ := hob
        refine ⟨a, cap, hal.rt i n _ h1 q1, q2, fun n' hn => ?_, fun hlt => ?_⟩
        · show (match fs.idxOf? (fsf fs i) with | some i => Gc'.rt i n' | none => G.rt _ n') = none
          rw [idxOf_at hnd h1]; exact q3 n' hn
        · obtain ⟨p, p1, p2, p3, p4⟩ := q4 hlt
          exact ⟨p, p1, p2, hown' _ p3, p4⟩
    | none =>
      have hnm : j ∉ fs := by rw [List.idxOf?_eq_none_iff] at hix; exact hix
      rw [updH_other fs _ H j hnm] at hj
      refine (hw.obj j ob hj).keep hle (fun b hb => ?_) (fun n hn => ?_) (fun hn => by show (match fs.idxOf? j with | some i => Gc'.loc i | none => G.loc j) = none; rw [hix]; exact hn)
      · have hbs := (hw.own b j hb).1
        have hgn : Gc.own b = none := by
          show (match G.own b with | some j => fs.idxOf? j | none => none) = none
          rw [hb]; exact hix
        have hk := hKc b hbs hgn
        refine ⟨hw'.keep b hk, fun a ha => ?_⟩
        cases hga : Gc'.imm a with
        | none =>
          show Gc'.imm a = G.imm a
          rw [hga]
          cases hg : G.imm a with
          | none => rfl
          | some v => have := hw'.le.imm a v hg; rw [hga] at this; cases this
        | some v =>
          show Gc'.imm a = G.imm a
          rcases hw'.immNew a v hga with h1 | h1
          · rw [hga]; exact h1.symm
          · exact absurd (ha ▸ hk) h1
      · show (match fs.idxOf? j with | some i => Gc'.rt i n | none => G.rt j n) = none
        rw [hix]; exact hn
end Tdoc
/- Calls as steps, and telling a state with less. No program is named here. -/
set_option linter.unusedSimpArgs false
set_option linter.unusedVariables false
namespace Tdoc
open Go

mutual
theorem ren_low (f : Nat → Nat) : ∀ (x : AV), low 0 x = true → ren f x = x
  | .d x, _ => rfl
  | .sl sz es tok, h => by cases tok <;> first | rfl | (simp [low, lowT] at h)
  | .nils, _ => rfl
  | .ptr i off, h => by simp [low] at h
  | .iptr cs, _ => rfl
  | .nilp, _ => rfl
  | .row i off n cap, h => by simp [low] at h
  | .bm i n, h => by simp [low] at h
  | .bp i n m, h => by simp [low] at h
  | .fn g a b, h => by simp [low] at h; simp [ren, renL_low f a h.1, renL_low f b h.2]
  | .nilf, _ => rfl
  | .ifc _, _ => rfl
  | .agg cs, h => by simp [low] at h; simp [ren, renL_low f cs h]
  | .tup vs, h => by simp [low] at h; simp [ren, renL_low f vs h]
  | .gd b v, h => by simp [low] at h; simp [ren, ren_low f v h]
  | .any, _ => rfl
theorem renL_low (f : Nat → Nat) : ∀ (l : List AV), lowL 0 l = true → renL f l = l
  | [], _ => rfl
  | a :: l, h => by simp [lowL] at h; simp [renL, ren_low f a h.1, renL_low f l h.2]
end

mutual
theorem low_mono {k k' : Nat} (hk : k ≤ k') : ∀ (x : AV), low k x = true → low k' x = true
  | .d x, _ => rfl
  | .sl sz es tok, h => by
    cases tok with
    | right i => have := blt_lt (a := i) (b := k) h; simp [low, lowT]; omega
    | none => rfl
    | full => rfl
  | .nils, _ => rfl
  | .ptr i off, h => by have := blt_lt (a := i) (b := k) h; simp [low]; omega
  | .iptr cs, _ => rfl
  | .nilp, _ => rfl
  | .row i off n cap, h => by have := blt_lt (a := i) (b := k) h; simp [low]; omega
  | .bm i n, h => by have := blt_lt (a := i) (b := k) h; simp [low]; omega
  | .bp i n m, h => by have := blt_lt (a := i) (b := k) h; simp [low]; omega
  | .fn g a b, h => by simp [low] at h; simp [low, lowL_mono hk a h.1, lowL_mono hk b h.2]
  | .nilf, _ => rfl
  | .ifc _, _ => rfl
  | .agg cs, h => by simp [low] at h; simp [low, lowL_mono hk cs h]
  | .tup vs, h => by simp [low] at h; simp [low, lowL_mono hk vs h]
  | .gd b v, h => by simp [low] at h; simp [low, low_mono hk v h]
  | .any, _ => rfl
theorem lowL_mono {k k' : Nat} (hk : k ≤ k') : ∀ (l : List AV), lowL k l = true → lowL k' l = true
  | [], _ => rfl
  | a :: l, h => by simp [lowL] at h; simp [lowL, low_mono hk a h.1, lowL_mono hk l h.2]
end

theorem lowL_d {k : Nat} : ∀ (l : List Dat), lowL k (l.map .d) = true
  | [] => rfl
  | a :: l => by simp [lowL, low, lowL_d l]

theorem renO_low (f : Nat → Nat) (o : AObj) (h : lowO 0 o = true) : renO f o = o := by
  cases o with
  | row cells => simp [renO, renL_low f cells h]
  | buf sz n cells => simp [renO, renL_low f cells h]
  | right sz n => rfl
  | dead => rfl
  | room => rfl
  | opq R => rfl

theorem renH_low (f : Nat → Nat) : ∀ (l : List AObj), lowH 0 l = true → l.map (renO f) = l
  | [], _ => rfl
  | a :: l, h => by simp [lowH] at h; simp [renO_low f a h.1, renH_low f l h.2]

section
variable {P : Program} {E : Env}

/-- A call of a function value, by the callee's contract. -/
theorem callR {o : Oper} {ρ : Operand → AV} {H : List AObj} {f : Operand} {as : List Operand} {ats : Array TypeId} {g : FuncId} {first cap : List AV} (ho : o.op = .call ⟨.value f, as.toArray, ats⟩) (hf : ρ f = .fn (.func g) first cap)
    {args : List AV} {hc : List AObj} {Q : AV → List AObj → Prop} (S : Spec P g args hc Q) (fs : List Nat) (hnd : fs.Nodup)
    (hobj : fs.map (fun j => H[j]?) = hc.map (fun o => some (renO (fsf fs) o))) (hlow : lowH fs.length hc = true) (hargs : first ++ (as.map ρ ++ cap) = renL (fsf fs) args) (hla : lowL fs.length args = true) :
    OpR P E o ρ H (fun v H' => ∃ r h', Q r h' ∧ h'.length = hc.length ∧ v = ren (fsf fs) r ∧ H' = updH H fs (h'.map (renO (fsf fs)))) := by
  intro G a w hw hr
  have hlen : fs.length = hc.length := by have := congrArg List.length hobj; simpa using this
  have hobj' : ∀ i, i < fs.length → H[fsf fs i]? = (hc[i]?).map (renO (fsf fs)) := by
    intro i hi
    have h1 := congrArg (fun l => l[i]?) hobj
    simp only [List.getElem?_map] at h1
    have h2 : fs[i]? = some (fsf fs i) := by unfold fsf; rw [List.getD_eq_getElem?_getD, List.getElem?_eq_getElem hi]; rfl
    have h3 : hc[i]? = some (hc[i]'(by omega)) := by simp [show i < hc.length by omega]
    rw [h2, h3] at h1
    simp only [Option.map_some, Option.some.injEq] at h1
    rw [h1, h3]; rfl
  have hf' : RepA G (ρ f) (a.eval f) := hr f (by simp [ho, Op.operands, Call.operands])
  have has : ∀ x, x ∈ as → RepA G (ρ x) (a.eval x) := fun x hx => hr x (by simp [ho, Op.operands, Call.operands, hx])
  rw [hf] at hf'
  generalize hfv : a.eval f = fv at hf'
  cases hf' with
  | fn _ fvs cvs h1 h2 h3 h4 =>
  obtain ⟨fn, k1, k2, k3⟩ := S.1
  have k2' : ¬ fn.name = "runtime.NumGoroutine" := by simpa using k2
  have k3' : ¬ fn.body = none := by intro hh; rw [hh] at k3; cases k3
  have hrun : (execOp a.eval o).run P w = .ok (.enter g (fvs ++ (as.map a.eval).toArray ++ cvs)) w := by
    unfold execOp
    simp [ho, resolve, hfv, Deferred.ofValue, invoke, callFunc, k1, k2', k3']
  unfold Oper.wp
  rw [hrun]
  have hcf := call_frame S hnd hlen hobj' hlow hargs hla hw (vals := fvs ++ (as.map a.eval).toArray ++ cvs) (by simp [h1, h2]) (fun j x v hx hv => by
    rw [← List.append_assoc] at hx
    have hv' : (fvs.toList ++ (as.map a.eval) ++ cvs.toList)[j]? = some v := by
      rw [← Array.getElem?_toList] at hv
      simpa using hv
    by_cases hj1 : j < first.length
    · rw [List.append_assoc, List.getElem?_append_left (by simpa using hj1)] at hx
      rw [List.append_assoc, List.getElem?_append_left (by simp [h1]; exact hj1)] at hv'
      exact h3 j x v hx (by simpa using hv')
    · by_cases hj2 : j < first.length + as.length
      · rw [List.getElem?_append_left (by simp; omega), List.getElem?_append_right (by omega)] at hx
        rw [List.getElem?_append_left (by simp [h1]; omega), List.getElem?_append_right (by simp [h1]; omega)] at hv'
        simp only [Array.length_toList, h1] at hv'
        rw [List.getElem?_map, Option.map_eq_some_iff] at hx hv'
        obtain ⟨y, hy, rfl⟩ := hx
        obtain ⟨z, hz, rfl⟩ := hv'
        rw [hy] at hz; cases hz
        exact has y (List.mem_of_getElem? hy)
      · rw [List.getElem?_append_right (by simp; omega)] at hx
        rw [List.getElem?_append_right (by simp [h1]; omega)] at hv'
        simp only [List.length_append, Array.length_toList, h1, List.length_map] at hx hv'
        exact h4 _ x v hx (by simpa using hv'))
  refine hcf.mono ?_
  rintro e w' ⟨v, r, h', G', rfl, q1, q2, q3, q4, q5⟩
  exact ⟨v, G', ren (fsf fs) r, _, ⟨r, h', q1, q2, rfl, rfl⟩, rfl, q3, q5, q4⟩

/-- A call whose outcome is told exactly. -/
theorem callS {o : Oper} {ρ : Operand → AV} {H : List AObj} {f : Operand} {as : List Operand} {ats : Array TypeId} {g : FuncId} {first cap : List AV} (ho : o.op = .call ⟨.value f, as.toArray, ats⟩) (hf : ρ f = .fn (.func g) first cap)
    {args : List AV} {hc h0 : List AObj} {r0 : AV} (S : Spec P g args hc (fun r h' => r = r0 ∧ h' = h0)) (fs : List Nat) (hnd : fs.Nodup)
    (hobj : fs.map (fun j => H[j]?) = hc.map (fun o => some (renO (fsf fs) o))) (hlow : lowH fs.length hc = true) (hargs : first ++ (as.map ρ ++ cap) = renL (fsf fs) args) (hla : lowL fs.length args = true)
    {v : AV} {H' : List AObj} (hv : ren (fsf fs) r0 = v) (hH : updH H fs (h0.map (renO (fsf fs))) = H') : OpS P E o ρ H v H' := by
  intro G a w hw hr
  refine wp_mono2 ?_ (callR ho hf S fs hnd hobj hlow hargs hla G a w hw hr)
  rintro a' w' ⟨u, G', v', h', ⟨r, h'', ⟨rfl, rfl⟩, k2, rfl, rfl⟩, h1, h2, h3, h4⟩
  subst hv; subst hH
  exact ⟨u, G', h1, h2, h3, h4⟩

/-- A call without objects. -/
theorem callS0 {o : Oper} {ρ : Operand → AV} {H : List AObj} {f : Operand} {as : List Operand} {ats : Array TypeId} {g : FuncId} {first cap : List AV} (ho : o.op = .call ⟨.value f, as.toArray, ats⟩) (hf : ρ f = .fn (.func g) first cap)
    {args : List AV} {r0 : AV} (S : Spec P g args [] (fun r h' => r = r0 ∧ h' = [])) (hargs : first ++ (as.map ρ ++ cap) = args) (hla : lowL 0 args = true) (hr0 : low 0 r0 = true) : OpS P E o ρ H r0 H :=
  callS ho hf S [] (List.nodup_nil) rfl rfl (by rw [hargs, renL_low _ _ hla]) hla (ren_low _ _ hr0) rfl

theorem callR0 {o : Oper} {ρ : Operand → AV} {H : List AObj} {f : Operand} {as : List Operand} {ats : Array TypeId} {g : FuncId} {first cap : List AV} (ho : o.op = .call ⟨.value f, as.toArray, ats⟩) (hf : ρ f = .fn (.func g) first cap)
    {args : List AV} {Q : AV → Prop} (S : Spec P g args [] (fun r _ => Q r ∧ low 0 r = true)) (hargs : first ++ (as.map ρ ++ cap) = args) (hla : lowL 0 args = true) : OpR P E o ρ H (fun v H' => Q v ∧ H' = H) := by
  intro G a w hw hr
  refine wp_mono2 ?_ (callR ho hf S [] List.nodup_nil rfl rfl (by rw [hargs, renL_low _ _ hla]) hla G a w hw hr)
  rintro a' w' ⟨u, G', v', h', ⟨r, h'', ⟨k0, k1⟩, k2, rfl, rfl⟩, h1, h2, h3, h4⟩
  rw [ren_low _ _ k1] at h4
  have hu : updH H [] (h''.map (renO (fsf []))) = H := by cases h'' <;> rfl
  rw [hu] at h3
  exact ⟨u, G', r, _, ⟨k0, rfl⟩, h1, h2, h3, h4⟩

/-! ### a state told with less -/

/-- Every concrete value that fits x fits y. -/
def AV.le (x y : AV) : Prop := ∀ G v, RepA G x v → RepA G y v

theorem AV.le.refl (x : AV) : AV.le x x := fun _ _ h => h
theorem AV.le.any (x : AV) : AV.le x .any := fun _ v _ => .any v
theorem AV.le.eq {x y : AV} (h : x = y) : AV.le x y := h ▸ AV.le.refl x
theorem AV.le.dat {sz : Nat} {es : List (List Dat)} {tok : Tok} : AV.le (.sl sz es tok) (.d (.sl sz es)) := fun _ _ h => by cases h with | sl r _ => exact .d r
theorem AV.le.tok {sz : Nat} {es : List (List Dat)} {tok : Tok} : AV.le (.sl sz es tok) (.sl sz es .none) := fun _ _ h => by cases h with | sl r _ => exact .sl r trivial
theorem AV.le.nils {sz : Nat} : AV.le .nils (.d (.sl sz [])) := fun _ _ h => by cases h; exact .d (.nil sz)
theorem AV.le.nilsf {sz : Nat} : AV.le .nils (.sl sz [] .full) := fun _ _ h => by cases h; exact .sl (.nil sz) ⟨none, rfl⟩
theorem AV.le.trans {x y z : AV} (h : AV.le x y) (k : AV.le y z) : AV.le x z := fun G v r => k G v (h G v r)
theorem AV.le.gd {b : Bool} {x : AV} (hb : b = true) : AV.le (.gd b x) x := fun _ _ h => h.gd_inv hb

def AllLe : List AV → List AV → Prop
  | [], [] => True
  | x :: l, y :: r => AV.le x y ∧ AllLe l r
  | _, _ => False

theorem AllLe_at : ∀ {l r : List AV}, AllLe l r → l.length = r.length ∧ ∀ (j : Nat) (y : AV), r[j]? = some y → ∃ x, l[j]? = some x ∧ AV.le x y
  | [], [], _ => ⟨rfl, fun j y h => by simp at h⟩
  | x :: l, y :: r, h => by
    obtain ⟨h1, h2⟩ := AllLe_at h.2
    refine ⟨by simp [h1], fun j z hz => ?_⟩
    cases j with
    | zero => simp at hz; subst hz; exact ⟨x, by simp, h.1⟩
    | succ j => obtain ⟨u, hu, hl⟩ := h2 j z (by simpa using hz); exact ⟨u, by simpa using hu, hl⟩
  | [], _ :: _, h => h.elim
  | _ :: _, [], h => h.elim

theorem AllLe.refl : ∀ (l : List AV), AllLe l l
  | [] => trivial
  | x :: l => ⟨.refl x, AllLe.refl l⟩

theorem AV.le.agg {l r : List AV} (h : AllLe l r) : AV.le (.agg l) (.agg r) := by
  intro G v hv
  obtain ⟨h1, h2⟩ := AllLe_at h
  generalize hx : AV.agg l = x at hv
  cases hv <;> cases hx
  rename_i vs k3 k1 k2
  refine .agg vs (by rw [k1, h1]) (fun j y u hy hu => ?_) k3
  obtain ⟨x, hx, hl⟩ := h2 j y hy
  exact hl _ _ (k2 j x u hx hu)

theorem AV.le.tup {l r : List AV} (h : AllLe l r) : AV.le (.tup l) (.tup r) := by
  intro G v hv
  obtain ⟨h1, h2⟩ := AllLe_at h
  generalize hx : AV.tup l = x at hv
  cases hv <;> cases hx
  rename_i vs k1 k2
  refine .tup vs (by rw [k1, h1]) (fun j y u hy hu => ?_)
  obtain ⟨x, hx, hl⟩ := h2 j y hy
  exact hl _ _ (k2 j x u hx hu)

/-- The slots of a list, told by another list. -/
def SubL (τ : Nat → AV) : List (Nat × AV) → Prop
  | [] => True
  | p :: l => AV.le (τ p.1) p.2 ∧ SubL τ l

theorem SubL_look {τ : Nat → AV} : ∀ {l : List (Nat × AV)}, SubL τ l → ∀ t, AV.le (τ t) (look l t)
  | [], _, t => .any _
  | (d, v) :: l, h, t => by
    show AV.le (τ t) (bif Nat.beq t d then v else look l t)
    cases hb : Nat.beq t d with
    | true => obtain rfl := Nat.eq_of_beq_eq_true hb; exact h.1
    | false => exact SubL_look h.2 t

def ObLe : AObj → AObj → Prop
  | .row l, .row r => AllLe l r
  | .buf sz n l, .buf sz' n' r => sz = sz' ∧ n = n' ∧ AllLe l r
  | .right sz n, .right sz' n' => sz = sz' ∧ n = n'
  | _, .dead => True
  | .room, .room => True
  | .opq R, .opq R' => R = R'
  | _, _ => False

def HLe : List AObj → List AObj → Prop
  | [], [] => True
  | x :: l, y :: r => ObLe x y ∧ HLe l r
  | _, _ => False

theorem HLe_at : ∀ {l r : List AObj}, HLe l r → l.length = r.length ∧ ∀ (j : Nat) (y : AObj), r[j]? = some y → ∃ x, l[j]? = some x ∧ ObLe x y
  | [], [], _ => ⟨rfl, fun j y h => by simp at h⟩
  | x :: l, y :: r, h => by
    obtain ⟨h1, h2⟩ := HLe_at h.2
    refine ⟨by simp [h1], fun j z hz => ?_⟩
    cases j with
    | zero => simp at hz; subst hz; exact ⟨x, by simp, h.1⟩
    | succ j => obtain ⟨u, hu, hl⟩ := h2 j z (by simpa using hz); exact ⟨u, by simpa using hu, hl⟩
  | [], _ :: _, h => h.elim
  | _ :: _, [], h => h.elim

theorem ObLe.refl (o : AObj) : ObLe o o := by cases o <;> simp [ObLe, AllLe.refl]
theorem HLe.refl : ∀ (h : List AObj), HLe h h
  | [] => trivial
  | o :: l => ⟨ObLe.refl o, HLe.refl l⟩

theorem ObjRel.le {G : Gh} {w : World} {i : Nat} {o o' : AObj} (h : ObLe o o') (hr : ObjRel G w i o) : ObjRel G w i o' := by
  cases o' with
  | dead => trivial
  | row r =>
    cases o with
    | row l =>
      obtain ⟨b, h1, h2, h3, h4⟩ := hr
      refine ⟨b, h1, h2, fun j c hj => ?_, h4⟩
      obtain ⟨x, hx, hl⟩ := (AllLe_at h).2 j c hj
      obtain ⟨v, q1, q2, q3, q4⟩ := h3 j x hx
      exact ⟨v, q1, q2, hl _ _ q3, q4⟩
    | _ => exact h.elim
  | buf sz n r =>
    cases o with
    | buf sz' n' l =>
      obtain ⟨rfl, rfl, h⟩ := h
      obtain ⟨a, cap, h1, h2, h3⟩ := hr
      refine ⟨a, cap, h1, h2, h3.trans (AllLe_at h).1.symm (fun b hb => ⟨hb, rfl, fun x _ hn => hn⟩) (fun j c hj => ?_)⟩
      obtain ⟨x, hx, hl⟩ := (AllLe_at h).2 j c hj
      exact ⟨x, hx, fun v hv => hl _ _ hv⟩
    | _ => exact h.elim
  | right sz n =>
    cases o with
    | right sz' n' => obtain ⟨rfl, rfl⟩ := h; exact hr
    | _ => exact h.elim
  | room =>
    cases o with
    | room => exact hr
    | _ => exact h.elim
  | opq R =>
    cases o with
    | opq R' => obtain rfl : R' = R := h; exact hr
    | _ => exact h.elim

theorem Rel_sub {N : Nat} {τ : Nat → AV} {l : List (Nat × AV)} {h h' : List AObj} (hs : SubL τ l) (hh : HLe h h') : ∀ a w, Rel E N τ h a w → Rel E N (look l) h' a w := by
  rintro a w ⟨h1, h2, G, hw, ht⟩
  refine ⟨h1, h2, G, ⟨hw.le, hw.imm, hw.immNew, hw.keep, hw.size, hw.os, hw.tape, hw.output, hw.own, fun i hi => hw.fresh i (by rw [(HLe_at hh).1]; exact hi), fun i o hi => ?_⟩, fun t => SubL_look hs t _ _ (ht t)⟩
  obtain ⟨x, hx, hl⟩ := (HLe_at hh).2 i o hi
  exact (hw.obj i x hx).le hl

/-- Objects at the heap's end are forgotten. -/
def lowS (k : Nat) : List (Nat × AV) → Bool
  | [] => true
  | p :: l => low k p.2 && lowS k l

theorem lowS_look {k : Nat} : ∀ {l : List (Nat × AV)}, lowS k l = true → ∀ t, low k (look l t) = true
  | [], _, t => rfl
  | (d, v) :: l, h, t => by
    simp only [lowS, Bool.and_eq_true] at h
    show low k (bif Nat.beq t d then v else look l t) = true
    cases hb : Nat.beq t d with
    | true => exact h.1
    | false => exact lowS_look h.2 t

theorem Rel_cut {N : Nat} {τ : Nat → AV} {l : List (Nat × AV)} {h h' junk : List AObj} (hb : E.below h'.length) (hs : SubL τ l) (hls : lowS h'.length l = true) (hh : HLe h (h' ++ junk)) (hlh : lowH h'.length h' = true) : ∀ a w, Rel E N τ h a w → Rel E N (look l) h' a w := by
  intro a w hr
  obtain ⟨h1, h2, G, hw, ht⟩ := Rel_sub (l := l) hs hh a w hr
  refine ⟨h1, h2, cutG h'.length G, hw.cut hb rfl (fun i hi => by rw [List.getElem?_append_left hi]) hlh, fun t => (ht t).cut (lowS_look hls t)⟩

theorem Env.below_mono {k k' : Nat} (h : E.below k) (hk : k ≤ k') : E.below k' := fun i hi => h i (by omega)

/-- The spare room of a slice that has none becomes an object, so that appends to it can be told alike. -/
theorem Rel_acquire {N : Nat} {l : List (Nat × AV)} {h : List AObj} {t sz : Nat} {es : List (List Dat)} (ht : look l t = .sl sz es .full ∨ (look l t = .nils ∧ es = [])) :
    ∀ a w, Rel E N (look l) h a w → Rel E N (look ((t, .sl sz es (.right h.length)) :: l)) (h ++ [.right sz es.length]) a w := by
  rintro a w ⟨h1, h2, G, hw, hr⟩
  have hv := hr t
  obtain ⟨p, hv', hrep⟩ : ∃ p, a.tmps.getD t undef = .slice p es.length es.length ∧ RepD G.imm (.sl sz es) (a.tmps.getD t undef) := by
    rcases ht with ht | ⟨ht, rfl⟩
    · rw [ht] at hv
      generalize a.tmps.getD t undef = u at hv
      cases hv with
      | sl r k => obtain ⟨p, rfl⟩ := k; exact ⟨p, rfl, r⟩
    · rw [ht] at hv
      generalize a.tmps.getD t undef = u at hv
      cases hv
      exact ⟨none, rfl, .nil _⟩
  have hf := hw.fresh h.length (Nat.le_refl _)
  let G' : Gh := { G with rt := fun i n => if i = h.length ∧ n = es.length then some (p, es.length) else G.rt i n }
  have hle : G.le G' := ⟨fun _ _ x => x, fun _ _ x => x, fun i n x hx => by
    show (if i = h.length ∧ n = es.length then _ else G.rt i n) = some x
    rw [if_neg (by rintro ⟨rfl, _⟩; rw [hf.2 n] at hx; cases hx)]; exact hx, fun _ _ x => x⟩
  refine ⟨h1, h2, G', ⟨hw.le.trans hle, hw.imm, hw.immNew, hw.keep, hw.size, hw.os, hw.tape, hw.output, hw.own, fun i hi => ?_, fun i o hi => ?_⟩, fun t' => ?_⟩
  · simp only [List.length_append, List.length_cons, List.length_nil] at hi
    have := hw.fresh i (by omega)
    exact ⟨this.1, fun n => by show (if i = h.length ∧ n = es.length then _ else G.rt i n) = none; rw [if_neg (by omega)]; exact this.2 n⟩
  · by_cases hlt : i < h.length
    · rw [List.getElem?_append_left hlt] at hi
      refine (hw.obj i o hi).keep hle (fun b _ => ⟨rfl, fun _ _ => rfl⟩) (fun n hn => ?_) (fun hn => hn)
      show (if i = h.length ∧ n = es.length then _ else G.rt i n) = none
      rw [if_neg (by omega)]; exact hn
    · rw [List.getElem?_append_right (by omega)] at hi
      have hi0 : i - h.length = 0 := by have := (List.getElem?_eq_some_iff.1 hi).1; simp at this; omega
      rw [hi0] at hi
      simp at hi
      subst hi
      obtain rfl : i = h.length := by omega
      refine ⟨p, es.length, ?_, Nat.le_refl _, fun n' hn => ?_, fun hlt => by omega⟩
      · show (if h.length = h.length ∧ es.length = es.length then _ else _) = _; simp
      · show (if h.length = h.length ∧ n' = es.length then _ else G.rt _ n') = none
        rw [if_neg (by omega)]; exact hf.2 n'
  · show RepA G' (bif Nat.beq t' t then _ else look l t') _
    cases hb : Nat.beq t' t with
    | true =>
      obtain rfl := Nat.eq_of_beq_eq_true hb
      refine .sl (hrep.mono hle.imm) ⟨p, es.length, hv', ?_⟩
      show (if h.length = h.length ∧ es.length = es.length then _ else _) = _; simp
    | false => exact (hr t').mono hle
end

/-- Room for an object to come. -/
theorem Rel_room {E : Env} {N : Nat} {τ : Nat → AV} {h : List AObj} : ∀ a w, Rel E N τ h a w → Rel E N τ (h ++ [.room]) a w := by
  rintro a w ⟨h1, h2, G, hw, ht⟩
  refine ⟨h1, h2, G, ⟨hw.le, hw.imm, hw.immNew, hw.keep, hw.size, hw.os, hw.tape, hw.output, hw.own, fun i hi => hw.fresh i (by simp at hi; omega), fun i o hi => ?_⟩, ht⟩
  by_cases hlt : i < h.length
  · rw [List.getElem?_append_left hlt] at hi; exact hw.obj i o hi
  · rw [List.getElem?_append_right (by omega)] at hi
    have hi0 : i - h.length = 0 := by have := (List.getElem?_eq_some_iff.1 hi).1; simp at this; omega
    rw [hi0] at hi
    simp at hi
    subst hi
    exact hw.fresh i (by omega)

def acqG (G : Gh) (i n : Nat) (p : Option Addr) : Gh :=
  { G with rt := fun j m => if j = i ∧ m = n then some (p, n) else G.rt j m }

theorem WRel.acquire {E : Env} {G : Gh} {h : List AObj} {w : World} {i sz : Nat} {es : List (List Dat)} {p : Option Addr} (hw : WRel E G h w) (hi : h[i]? = some .room) (hrep : RepD G.imm (.sl sz es) (.slice p es.length es.length)) :
    G.le (acqG G i es.length p) ∧ WRel E (acqG G i es.length p) (h.set i (.right sz es.length)) w ∧ RepA (acqG G i es.length p) (.sl sz es (.right i)) (.slice p es.length es.length) := by
  have hro := hw.obj i _ hi
  have hle : G.le (acqG G i es.length p) := ⟨fun _ _ x => x, fun _ _ x => x, fun j m x hx => by
    show (if j = i ∧ m = es.length then _ else G.rt j m) = some x
    rw [if_neg (by rintro ⟨rfl, rfl⟩; rw [hro.2] at hx; cases hx)]; exact hx, fun _ _ x => x⟩
  refine ⟨hle, ⟨hw.le.trans hle, hw.imm, hw.immNew, hw.keep, hw.size, hw.os, hw.tape, hw.output, hw.own, fun j hj => ?_, fun j o hj => ?_⟩, .sl (hrep.mono hle.imm) ⟨p, es.length, rfl, ?_⟩⟩
  · simp only [List.length_set] at hj
    have := hw.fresh j hj
    have hil := (List.getElem?_eq_some_iff.1 hi).1
    exact ⟨this.1, fun n => by show (if j = i ∧ n = es.length then _ else G.rt j n) = none; rw [if_neg (by omega)]; exact this.2 n⟩
  · rw [List.getElem?_set] at hj
    split at hj
    · rename_i e; subst e
      split at hj
      · cases hj
        refine ⟨p, es.length, ?_, Nat.le_refl _, fun n' hn => ?_, fun hlt => by omega⟩
        · show (if i = i ∧ es.length = es.length then _ else _) = _; simp
        · show (if i = i ∧ n' = es.length then _ else G.rt i n') = none
          rw [if_neg (by omega)]; exact hro.2 n'
      · cases hj
    · rename_i e
      refine (hw.obj j o hj).keep hle (fun b _ => ⟨rfl, fun _ _ => rfl⟩) (fun n hn => ?_) (fun hn => hn)
      show (if j = i ∧ n = es.length then _ else G.rt j n) = none
      rw [if_neg (by rintro ⟨rfl, _⟩; exact e rfl)]; exact hn
  · show (if i = i ∧ es.length = es.length then _ else _) = _; simp

open Classical in
/-- An append to a slice without spare room, whose result may be appended to again. -/
theorem append_room {P : Program} {E : Env} {T : Tr} {o : Oper} {ρ : Operand → AV} {h : List AObj} (hT : TOk P T) {t t2 sz by_ i : Nat} {s x : Operand} {es es2 : List (List Dat)} (ho : o.op = .call { callee := .builtin .append, args := #[s, x], argTypes := #[t, t2] })
    (ht : appT T t = some (sz, by_)) (ht2 : srcT T t2 = true) (hs : ρ s = .sl sz es .full ∨ (ρ s = .nils ∧ es = [])) (hsx : s ≠ x) (hi : h[i]? = some .room) (hx : asNew sz (ρ x) = some es2)
    (hb : (es.length + es2.length) * (by_ + 1) ≤ 140737488355328) :
    OpS P E o ρ h (.sl sz (es ++ es2) (.right i)) (h.set i (.right sz (es.length + es2.length))) := by
  intro G a w hw hr
  have hs' : RepA G (ρ s) (a.eval s) := hr s (by simp [ho, Op.operands, Call.operands])
  obtain ⟨p, hv', hrep⟩ : ∃ p, a.eval s = .slice p es.length es.length ∧ RepD G.imm (.sl sz es) (a.eval s) := by
    rcases hs with ht | ⟨ht, rfl⟩
    · rw [ht] at hs'
      generalize a.eval s = u at hs'
      cases hs' with
      | sl r k => obtain ⟨p, rfl⟩ := k; exact ⟨p, rfl, r⟩
    · rw [ht] at hs'
      generalize a.eval s = u at hs'
      cases hs'
      exact ⟨none, rfl, .nil _⟩
  rw [hv'] at hrep
  obtain ⟨hle, hw1, hrs⟩ := hw.acquire hi hrep
  have hil := (List.getElem?_eq_some_iff.1 hi).1
  have hstep := append_right (P := P) (E := E) (T := T) (o := o) (ρ := fun y => if y = s then .sl sz es (.right i) else ρ y) (h := h.set i (.right sz es.length)) hT ho ht ht2 (if_pos rfl) (by simp [hil])
    (by show asNew sz (if x = s then _ else ρ x) = some es2; rw [if_neg (fun hh => hsx hh.symm)]; exact hx) hb
  have := hstep (acqG G i es.length p) a w hw1 (fun y hy => by
    show RepA _ (if y = s then _ else ρ y) _
    split
    · rename_i e; subst e; rw [hv']; exact hrs
    · exact (hr y hy).mono hle)
  refine wp_mono2 ?_ this
  rintro a' w' ⟨u, G', k1, k2, k3, k4⟩
  refine ⟨u, G', k1, hle.trans k2, ?_, k4⟩
  rwa [List.set_set] at k3

/-- A slice without spare room, told as one that may be appended to. -/
theorem Rel_acquireAt {E : Env} {N : Nat} {l : List (Nat × AV)} {h : List AObj} {t sz i : Nat} {es : List (List Dat)} (ht : look l t = .sl sz es .full ∨ (look l t = .nils ∧ es = [])) (hi : h[i]? = some .room) :
    ∀ a w, Rel E N (look l) h a w → Rel E N (look ((t, .sl sz es (.right i)) :: l)) (h.set i (.right sz es.length)) a w := by
  rintro a w ⟨h1, h2, G, hw, hr⟩
  have hv := hr t
  obtain ⟨p, hv', hrep⟩ : ∃ p, a.tmps.getD t undef = .slice p es.length es.length ∧ RepD G.imm (.sl sz es) (a.tmps.getD t undef) := by
    rcases ht with ht | ⟨ht, rfl⟩
    · rw [ht] at hv
      generalize a.tmps.getD t undef = u at hv
      cases hv with
      | sl r k => obtain ⟨p, rfl⟩ := k; exact ⟨p, rfl, r⟩
    · rw [ht] at hv
      generalize a.tmps.getD t undef = u at hv
      cases hv
      exact ⟨none, rfl, .nil _⟩
  rw [hv'] at hrep
  obtain ⟨hle, hw1, hrs⟩ := hw.acquire hi hrep
  refine ⟨h1, h2, _, hw1, fun t' => ?_⟩
  show RepA _ (bif Nat.beq t' t then _ else look l t') _
  cases hb : Nat.beq t' t with
  | true =>
    obtain rfl := Nat.eq_of_beq_eq_true hb
    rw [hv']; exact hrs
  | false => exact (hr t').mono hle

/-! a callee that is handed the whole heap -/
theorem fsf_range {k i : Nat} (h : i < k) : fsf (List.range k) i = i := by
  unfold fsf
  rw [List.getD_eq_getElem?_getD, List.getElem?_range h]; rfl

mutual
theorem ren_lowk {k : Nat} {f : Nat → Nat} (hf : ∀ i, i < k → f i = i) : ∀ (x : AV), low k x = true → ren f x = x
  | .d x, _ => rfl
  | .sl sz es tok, h => by
    cases tok with
    | right i => simp [ren, renT, hf i (blt_lt h)]
    | none => rfl
    | full => rfl
  | .nils, _ => rfl
  | .ptr i off, h => by simp [ren, hf i (blt_lt h)]
  | .iptr cs, _ => rfl
  | .nilp, _ => rfl
  | .row i off n cap, h => by simp [ren, hf i (blt_lt h)]
  | .bm i n, h => by simp [ren, hf i (blt_lt h)]
  | .bp i n m, h => by simp [ren, hf i (blt_lt h)]
  | .fn g a b, h => by simp [low] at h; simp [ren, renL_lowk hf a h.1, renL_lowk hf b h.2]
  | .nilf, _ => rfl
  | .ifc _, _ => rfl
  | .agg cs, h => by simp [low] at h; simp [ren, renL_lowk hf cs h]
  | .tup vs, h => by simp [low] at h; simp [ren, renL_lowk hf vs h]
  | .gd b v, h => by simp [low] at h; simp [ren, ren_lowk hf v h]
  | .any, _ => rfl
theorem renL_lowk {k : Nat} {f : Nat → Nat} (hf : ∀ i, i < k → f i = i) : ∀ (l : List AV), lowL k l = true → renL f l = l
  | [], _ => rfl
  | a :: l, h => by simp [lowL] at h; simp [renL, ren_lowk hf a h.1, renL_lowk hf l h.2]
end

theorem renO_lowk {k : Nat} {f : Nat → Nat} (hf : ∀ i, i < k → f i = i) (o : AObj) (h : lowO k o = true) : renO f o = o := by
  cases o with
  | row cells => simp [renO, renL_lowk hf cells h]
  | buf sz n cells => simp [renO, renL_lowk hf cells h]
  | right sz n => rfl
  | dead => rfl
  | room => rfl
  | opq R => rfl

theorem renH_lowk {k : Nat} {f : Nat → Nat} (hf : ∀ i, i < k → f i = i) : ∀ (l : List AObj), lowH k l = true → l.map (renO f) = l
  | [], _ => rfl
  | a :: l, h => by simp [lowH] at h; simp [renO_lowk hf a h.1, renH_lowk hf l h.2]

theorem updH_range (h os : List AObj) (hl : os.length = h.length) : updH h (List.range h.length) os = os := by
  apply List.ext_getElem?
  intro j
  by_cases hj : j < h.length
  · have ho : os[j]? = some (os[j]'(by omega)) := by simp [show j < os.length by omega]
    have := updH_at (List.range h.length) os h j _ List.nodup_range ho (by simpa using hj) (by rw [fsf_range hj]; exact hj)
    rw [fsf_range hj] at this
    rw [this, ho]
  · rw [List.getElem?_eq_none (by rw [updH_length]; omega), List.getElem?_eq_none (by omega)]

theorem callSame {P : Program} {E : Env} {o : Oper} {ρ : Operand → AV} {H : List AObj} {f : Operand} {as : List Operand} {ats : Array TypeId} {g : FuncId} {first cap : List AV} (ho : o.op = .call ⟨.value f, as.toArray, ats⟩) (hf : ρ f = .fn (.func g) first cap)
    {args : List AV} {Q : AV → List AObj → Prop} (S : Spec P g args H (fun r h' => Q r h' ∧ low H.length r = true ∧ lowH H.length h' = true)) (hlow : lowH H.length H = true) (hargs : first ++ (as.map ρ ++ cap) = args) (hla : lowL H.length args = true) : OpR P E o ρ H Q := by
  intro G a w hw hr
  have hf' : ∀ i, i < H.length → fsf (List.range H.length) i = i := fun i hi => fsf_range hi
  have hobj : (List.range H.length).map (fun j => H[j]?) = H.map (fun o => some (renO (fsf (List.range H.length)) o)) := by
    have h1 : H.map (fun o => some (renO (fsf (List.range H.length)) o)) = (H.map (renO (fsf (List.range H.length)))).map some := by simp
    rw [h1, renH_lowk hf' H hlow]
    apply List.ext_getElem?
    intro j
    by_cases hj : j < H.length
    · simp [hj]
    · simp [List.getElem?_eq_none (Nat.le_of_not_lt hj)]
      omega
  refine wp_mono2 ?_ (callR ho hf S (List.range H.length) List.nodup_range hobj (by simpa using hlow) (by rw [hargs, renL_lowk hf' _ hla]) (by simpa using hla) G a w hw hr)
  rintro a' w' ⟨u, G', v', h', ⟨r, h'', ⟨k0, k1, k2⟩, k3, rfl, rfl⟩, h1, h2, h3, h4⟩
  rw [renH_lowk hf' h'' k2, updH_range H h'' k3] at h3
  rw [ren_lowk hf' r k1] at h4
  exact ⟨u, G', r, h'', k0, h1, h2, h3, h4⟩

/-! ### rules in terms of lists -/
section
variable {P : Program} {E : Env} {N : Nat} {Q : Exit → (Nat → AV) → List AObj → Prop} {τ : Nat → AV} {h : List AObj}

theorem AW_loopL {c : Code} {ι : Type} (S : ι → List (Nat × AV)) (H : ι → List AObj) (inv : ι → Prop) (μ : ι → Nat) (x0 : ι) (h0 : inv x0) (hs : SubL τ (S x0)) (hh : HLe h (H x0))
    (round : ∀ x, inv x → AW P E N c (thenA (fun τ' h' => ∃ y, inv y ∧ μ y < μ x ∧ SubL τ' (S y) ∧ HLe h' (H y)) Q) (look (S x)) (H x)) : AW P E N (.loop c) Q τ h :=
  AW_loop (fun x => look (S x)) H inv μ x0 h0 (Rel_sub hs hh) fun x hx => AW_mono (round x hx) fun e τ' h' hq => by
    cases e with
    | normal => obtain ⟨y, h1, h2, h3, h4⟩ := hq; exact ⟨y, h1, h2, Rel_sub h3 h4⟩
    | _ => exact hq

/-- The same for rounds that make objects of their own: they are forgotten at the round's end. -/
theorem AW_loopC {c : Code} {ι : Type} (S : ι → List (Nat × AV)) (H : ι → List AObj) (inv : ι → Prop) (μ : ι → Nat) (x0 : ι) (h0 : inv x0) (hs : SubL τ (S x0)) (hh : HLe h (H x0))
    (round : ∀ x, inv x → AW P E N c (thenA (fun τ' h' => ∃ y junk, inv y ∧ μ y < μ x ∧ SubL τ' (S y) ∧ HLe h' (H y ++ junk) ∧ E.below (H y).length ∧ lowS (H y).length (S y) = true ∧ lowH (H y).length (H y) = true) Q) (look (S x)) (H x)) : AW P E N (.loop c) Q τ h :=
  AW_loop (fun x => look (S x)) H inv μ x0 h0 (Rel_sub hs hh) fun x hx => AW_mono (round x hx) fun e τ' h' hq => by
    cases e with
    | normal => obtain ⟨y, junk, h1, h2, h3, h4, h5, h6, h7⟩ := hq; exact ⟨y, h1, h2, Rel_cut h5 h3 h6 h4 h7⟩
    | _ => exact hq

theorem AW_subL {c : Code} {l : List (Nat × AV)} {h' : List AObj} (hs : SubL τ l) (hh : HLe h h') (hc : AW P E N c Q (look l) h') : AW P E N c Q τ h := AW_sub (Rel_sub hs hh) hc

theorem AW_acquire {c : Code} {l : List (Nat × AV)} (t sz : Nat) {es : List (List Dat)} (ht : look l t = .sl sz es .full ∨ (look l t = .nils ∧ es = []))
    (hc : AW P E N c Q (look ((t, .sl sz es (.right h.length)) :: l)) (h ++ [.right sz es.length])) : AW P E N c Q (look l) h := AW_sub (Rel_acquire ht) hc

theorem AW_cut {c : Code} {l : List (Nat × AV)} (h' junk : List AObj) (hb : E.below h'.length) (hs : SubL τ l) (hls : lowS h'.length l = true) (hh : HLe h (h' ++ junk)) (hlh : lowH h'.length h' = true) (hc : AW P E N c Q (look l) h') : AW P E N c Q τ h :=
  AW_sub (Rel_cut hb hs hls hh hlh) hc

theorem AW_room {c : Code} (hc : AW P E N c Q τ (h ++ [.room])) : AW P E N c Q τ h := AW_sub Rel_room hc

theorem AW_acquireAt {c : Code} {l : List (Nat × AV)} (t sz i : Nat) {es : List (List Dat)} (ht : look l t = .sl sz es .full ∨ (look l t = .nils ∧ es = [])) (hi : h[i]? = some .room)
    (hc : AW P E N c Q (look ((t, .sl sz es (.right i)) :: l)) (h.set i (.right sz es.length))) : AW P E N c Q (look l) h := AW_sub (Rel_acquireAt ht hi) hc

/-- A cut between two pieces of code. -/
theorem AW_seq_cut {x y : Code} {ι : Type} (S : ι → List (Nat × AV)) (H : ι → List AObj) (inv : ι → Prop) (hx : AW P E N x (thenA (fun τ' h' => ∃ i, inv i ∧ SubL τ' (S i) ∧ HLe h' (H i)) Q) τ h) (hy : ∀ i, inv i → AW P E N y Q (look (S i)) (H i)) :
    AW P E N (.seq x y) Q τ h := by
  refine AW_seq (AW_mono hx fun e τ' h' hq => ?_)
  cases e with
  | normal => obtain ⟨i, h1, h2, h3⟩ := hq; exact AW_subL h2 h3 (hy i h1)
  | _ => exact hq

theorem AW_condL {c : Operand} {x y : Code} {b : Bool} (hc : ev τ c = .d (.bool b)) (ht : b = true → AW P E N x Q τ h) (hf : b = false → AW P E N y Q τ h) : AW P E N (.cond c x y) Q τ h :=
  AW_cond (fun G v => ofVal_ok G v) hc ht hf
end
end Tdoc
/- Small plain lemmas. No program is named here. -/
set_option linter.unusedSimpArgs false
set_option linter.unusedVariables false
namespace Tdoc
open Go

theorem wrap_id {n : Int} (h : -9223372036854775808 ≤ n ∧ n ≤ 9223372036854775807) : IntKind.i64.wrap n = n := by
  simp [IntKind.wrap, IntKind.signed, IntKind.bits]; omega

theorem strAt_get {s : List UInt8} {i : Nat} (h : i < s.length) : strAt s (i : Int) = (s[i].toNat : Int) := by simp [strAt, h]

theorem beq_byte {c d : UInt8} {k : Int} (hd : (d.toNat : Int) = k) (h : ((c.toNat : Int) == k) = true) : c = d := by
  rw [beq_iff_eq, ← hd] at h; exact UInt8.toNat_inj.1 (Int.ofNat_inj.1 h)

theorem byte_eq {c d : UInt8} : ((c.toNat : Int) = (d.toNat : Int)) ↔ c = d := by
  rw [Int.ofNat_inj]; exact UInt8.toNat_inj

/-- A body that neither has results to truncate: the end of a function whose results are ready. -/
theorem ret_exact {T : Tr} {rs : List ResultVar} {k : Nat} {Q : AV → List AObj → Prop} {τ : Nat → AV} {h h' : List AObj} {v r : AV} (h1 : resA T τ h rs = some v) (h2 : AV.le v r) (h3 : h' = h.take k) (h4 : h'.length = k) (h5 : low k r = true) (h6 : lowH k h' = true) (h7 : Q r h') :
    retP T rs k Q .ret τ h := ⟨v, r, h', h1, h2, h3, h4, h5, h6, h7⟩

theorem ret_exactN {T : Tr} {rs : List ResultVar} {k : Nat} {Q : AV → List AObj → Prop} {τ : Nat → AV} {h h' : List AObj} {v r : AV} (h1 : resA T τ h rs = some v) (h2 : AV.le v r) (h3 : h' = h.take k) (h4 : h'.length = k) (h5 : low k r = true) (h6 : lowH k h' = true) (h7 : Q r h') :
    retP T rs k Q .normal τ h := ⟨v, r, h', h1, h2, h3, h4, h5, h6, h7⟩

/-- A slot's list, told anew with equal values. -/
theorem look_eq_cons {t : Nat} {v : AV} {l : List (Nat × AV)} : look ((t, v) :: l) t = v := by
  show (bif Nat.beq t t then v else _) = v
  rw [Nat.beq_refl]; rfl

theorem lowH_mono {k k' : Nat} (hk : k ≤ k') : ∀ (l : List AObj), lowH k l = true → lowH k' l = true
  | [], _ => rfl
  | o :: l, h => by
    simp only [lowH, Bool.and_eq_true] at h ⊢
    refine ⟨?_, lowH_mono hk l h.2⟩
    cases o with
    | row cells => exact lowL_mono hk cells h.1
    | buf sz n cells => exact lowL_mono hk cells h.1
    | _ => rfl

/-- A call that is handed objects without names in them, and whose results have none. -/
theorem callS1 {P : Program} {E : Env} {o : Oper} {ρ : Operand → AV} {H : List AObj} {f : Operand} {as : List Operand} {ats : Array TypeId} {g : FuncId} {first cap : List AV} (ho : o.op = .call ⟨.value f, as.toArray, ats⟩) (hf : ρ f = .fn (.func g) first cap)
    {args : List AV} {hc h0 : List AObj} {r0 : AV} (S : Spec P g args hc (fun r h' => r = r0 ∧ h' = h0)) (fs : List Nat) (hnd : fs.Nodup)
    (hobj : fs.map (fun j => H[j]?) = hc.map some) (hargs : first ++ (as.map ρ ++ cap) = renL (fsf fs) args) (hla : lowL fs.length args = true) (hlow : lowH 0 hc = true) (hlow' : lowH 0 h0 = true) (hr0 : ren (fsf fs) r0 = r0)
    {H' : List AObj} (hH : updH H fs h0 = H') : OpS P E o ρ H r0 H' :=
  callS ho hf S fs hnd (by rw [hobj]; have := renH_low (fsf fs) hc hlow; rw [show hc.map (fun o => some (renO (fsf fs) o)) = (hc.map (renO (fsf fs))).map some by simp, this]) (lowH_mono (Nat.zero_le _) hc hlow) hargs hla hr0
    (by rw [renH_low (fsf fs) h0 hlow']; exact hH)

/-- A contract with room for a result, told without it. -/
theorem Spec.drop {P : Program} {f : FuncId} {args : List AV} {h : List AObj} {Q Q' : AV → List AObj → Prop} (S : Spec P f args (h ++ [.room]) Q)
    (hQ : ∀ r h', Q r h' → ∃ r', AV.le r r' ∧ low h.length r' = true ∧ lowH h.length (h'.take h.length) = true ∧ Q' r' (h'.take h.length)) : Spec P f args h Q' := by
  refine ⟨S.1, fun G w vals h1 h2 htab hw => ?_⟩
  have hw1 : WRel ⟨w, G, htab⟩ G (h ++ [.room]) w := by
    refine ⟨hw.le, hw.imm, hw.immNew, hw.keep, hw.size, hw.os, hw.tape, hw.output, hw.own, fun i hi => hw.fresh i (by simp at hi; omega), fun i o hi => ?_⟩
    by_cases hlt : i < h.length
    · rw [List.getElem?_append_left hlt] at hi; exact hw.obj i o hi
    · rw [List.getElem?_append_right (by omega)] at hi
      have hi0 : i - h.length = 0 := by have := (List.getElem?_eq_some_iff.1 hi).1; simp at this; omega
      rw [hi0] at hi
      simp at hi
      subst hi
      exact hw.fresh i (by omega)
  refine (S.2 G w vals h1 h2 htab hw1).mono ?_
  rintro e w' ⟨v, r, h', G', rfl, q1, q2, q3, q4, q5, q6⟩
  obtain ⟨r', k1, k2, k3, k4⟩ := hQ r h' q1
  simp only [List.length_append, List.length_cons, List.length_nil] at q2
  have hlen : (h'.take h.length).length = h.length := by simp; omega
  exact ⟨v, r', h'.take h.length, cutG h.length G', rfl, k4, hlen, k2, k3, (k1 _ _ q5).cut k2, q6.cut (fun i hi => hw.fresh i hi) hlen (fun i hi => by rw [List.getElem?_take, if_pos hi]) k3⟩

/-- A slice held against nil: told is alone that nil has no elements. -/
theorem eqNil_ok {P : Program} {E : Env} {T : Tr} {o : Oper} {ρ : Operand → AV} {h : List AObj} (hT : TOk P T) (hρ : ∀ z, ρ (.const z) = ofVal z) {t yt sz : Nat} {x : Operand} {es : List (List Dat)} (ho : o.op = .binOp .eql t x (.const (.slice none 0 0)) yt)
    (ht : isSliceT T t = true) (hx : asEs (ρ x) = some (sz, es)) : OpR P E o ρ h (fun v h' => h' = h ∧ ∃ b, v = .d (.bool b) ∧ (b = true → es = [])) := by
  intro G a w hw hr
  have hx' := asEs_ok (hr x (by simp [ho, Op.operands])) hx
  have hy' : RepA G (ρ (.const (.slice none 0 0))) (a.eval (.const (.slice none 0 0))) := hr _ (by simp [ho, Op.operands])
  obtain ⟨et, hu⟩ := und_of_slice hT ht
  obtain ⟨p, cap, hv, hn, hp⟩ := hx'.slice_inv
  have hcn : a.eval (.const (.slice none 0 0)) = .slice none 0 0 := rfl
  have hrun : ∃ b, (execOp a.eval o).run P w = .ok (.value (.bool b)) w ∧ (b = true → es = []) := by
    have hg : ∀ q : Option Addr, (eqGuard .eql t x (.const (.slice none 0 0)) (.slice q es.length cap) (.slice none 0 0)).run P w = .ok () w := fun q => eqGuard_run _ _ _ _ _ _ (by simp) (by simp)
    cases p with
    | none =>
      refine ⟨true, ?_, fun _ => (hn rfl).1⟩
      have he : (Op.equal t (.slice none es.length cap) (.slice none 0 0)).run P w = .ok true w := by
        show (Op.equalIn (9999 + 1) t _ _).run P w = _
        rw [Op.equalIn]
        simp [run_underlying hu]
      unfold execOp
      simp only [ho, Sem.run_bind]
      rw [hv, hcn, hg]
      simp [Go.binOp, he]
    | some q =>
      refine ⟨false, ?_, fun hb => by cases hb⟩
      have he : (Op.equal t (.slice (some q) es.length cap) (.slice none 0 0)).run P w = .ok false w := by
        show (Op.equalIn (9999 + 1) t _ _).run P w = _
        rw [Op.equalIn]
        simp [run_underlying hu]
      unfold execOp
      simp only [ho, Sem.run_bind]
      rw [hv, hcn, hg]
      simp [Go.binOp, he]
  obtain ⟨b, h1, h2⟩ := hrun
  unfold Oper.wp
  rw [h1]
  exact ⟨.bool b, G, .d (.bool b), h, ⟨rfl, b, rfl, h2⟩, rfl, .refl G, hw, .d (.bool b)⟩

/-- A slice without spare room that stands in an object, told as one that may be appended to. -/
theorem Rel_acquireH {E : Env} {N : Nat} {τ : Nat → AV} {h : List AObj} (i off j sz : Nat) {es : List (List Dat)} {cells : List AV} (hi : h[i]? = some (.row cells)) (hc : cells[off]? = some (.sl sz es .full)) (hj : h[j]? = some .room) :
    ∀ a w, Rel E N τ h a w → Rel E N τ ((h.set j (.right sz es.length)).set i (.row (cells.set off (.sl sz es (.right j))))) a w := by
  rintro a w ⟨h1, h2, G, hw, hr⟩
  have hij : j ≠ i := fun hh => by rw [hh, hi] at hj; cases hj
  obtain ⟨b, b1, b2, b3, b4⟩ := hw.obj i _ hi
  obtain ⟨v, v1, v2, v3, v4⟩ := b3 off _ hc
  obtain ⟨p, rfl, hrep⟩ : ∃ p, v = .slice p es.length es.length ∧ RepD G.imm (.sl sz es) v := by
    cases v3 with
    | sl r k => obtain ⟨p, rfl⟩ := k; exact ⟨p, rfl, r⟩
  obtain ⟨hle, hw1, hrs⟩ := hw.acquire hj hrep
  refine ⟨h1, h2, _, ⟨hw1.le, hw1.imm, hw1.immNew, hw1.keep, hw1.size, hw1.os, hw1.tape, hw1.output, hw1.own, fun k hk => hw1.fresh k (by simpa using hk), fun k o hk => ?_⟩, fun t => (hr t).mono hle⟩
  rw [List.getElem?_set] at hk
  split at hk
  · rename_i e; subst e
    split at hk
    · cases hk
      have hio : (h.set j (.right sz es.length))[i]? = some (.row cells) := by rw [List.getElem?_set_ne hij]; exact hi
      obtain ⟨b', c1, c2, c3, c4⟩ := hw1.obj i _ hio
      refine ⟨b', c1, c2, fun q c hq => ?_, c4⟩
      rw [List.getElem?_set] at hq
      split at hq
      · rename_i e2; subst e2
        split at hq
        · cases hq
          obtain ⟨u, u1, u2, u3, u4⟩ := c3 off _ hc
          have hbb : b' = b := by
            have hl2 : (acqG G j es.length p).loc i = G.loc i := rfl
            rw [hl2, b1] at c1; cases c1; rfl
          subst hbb
          exact ⟨_, v1, v2, hrs, v4⟩
        · cases hq
      · exact c3 q c hq
    · cases hk
  · exact hw1.obj k o hk

theorem AW_acquireH {P : Program} {E : Env} {N : Nat} {Q : Exit → (Nat → AV) → List AObj → Prop} {τ : Nat → AV} {h : List AObj} {c : Code} (i off j sz : Nat) {es : List (List Dat)} {cells : List AV} (hi : h[i]? = some (.row cells)) (hc : cells[off]? = some (.sl sz es .full)) (hj : h[j]? = some .room)
    (hw : AW P E N c Q τ ((h.set j (.right sz es.length)).set i (.row (cells.set off (.sl sz es (.right j)))))) : AW P E N c Q τ h := AW_sub (Rel_acquireH i off j sz hi hc hj) hw
end Tdoc
/- The small side conditions of steps, found by a default. No program is named here. -/
set_option linter.unusedSimpArgs false
set_option linter.unusedVariables false
namespace Tdoc
open Go

theorem sd {C : Prop} (h : C := by first | exact True.intro | exact (fun hh => hh) | omega | assumption | (intro hh; rw [hh]; rfl) | (intro hh; simp [gval, hh]; done) | (simp; omega)) : C := h
theorem sg {ex : Bool} {A C : Prop} (hg : ex = true) (h1 : A := by first | exact True.intro | exact ⟨hg, True.intro⟩ | exact ⟨hg, hg, True.intro⟩ | (refine ⟨?_, True.intro⟩; simp at hg; simp [hg]; done) | (refine ⟨?_, ?_, True.intro⟩ <;> (simp at hg; simp [hg]; done))) (h2 : C := by first | exact True.intro | (intro hh; rw [hg, hh]; rfl) | (intro hh; simp [gval, hh, hg]; done) | (intro hh; simp only [gval, hh, hg, Bool.not_false, Bool.not_true, Bool.and_true, Bool.true_and]; done) | (intro hh; simp only [gval] at hg; simp only [gval, hh, hg, Bool.not_false, Bool.and_true, Bool.true_and]; done) | (simp [gval] at hg; first | omega | (simp; done) | (simp; omega))) : A ∧ C := ⟨h1, h2⟩
theorem sm {C : Prop} (h : C := by first | (simp; done) | exact List.mem_cons_self | exact List.mem_cons_of_mem _ List.mem_cons_self) : C := h

section
variable {P : Program} {E : Env} {N : Nat} {T : Tr} {ops : List Oper} {rest : List Oper} {op : Op} {ty : TypeId} {pos : String} {after : Array Edge} {l : List (Nat × AV)} {h h' : List AObj} {v : AV} {C : Prop}

/-! steps with their side conditions found by themselves -/
theorem wd (hT : TOk P T) {n : Nat} {Q : (Nat → AV) → List AObj → Prop} {i d : Nat} (hs : astep T op (ev (look l)) h = some (v, h, C)) (hd : Nat.blt d N = true) (hn : h.length = n) (hk : AWd P E N ops (fun _ => List.range n) (fun _ => []) Q rest (i + 1) (look ((d, v) :: l)) h)
    (hC : C := by first | exact True.intro | omega | exact sd) : AWd P E N ops (fun _ => List.range n) (fun _ => []) Q (⟨some d, op, ty, pos, after, none⟩ :: rest) i (look l) h := AWd_step hT hs hd hn hC hk
theorem wk (hT : TOk P T) {Q : (Nat → AV) → List AObj → Prop} {d : Nat} (hs : astep T op (ev (look l)) h = some (v, h', C)) (hd : Nat.blt d N = true) (hk : AWk P E N ops Q rest (look ((d, v) :: l)) h')
    (hC : C := by first | exact True.intro | omega | exact sd) : AWk P E N ops Q (⟨some d, op, ty, pos, after, none⟩ :: rest) (look l) h := AWk_step hT hs hd hC hk
theorem wz (hT : TOk P T) {Q : (Nat → AV) → List AObj → Prop} (hs : astep T op (ev (look l)) h = some (v, h', C)) (hk : AWk P E N ops Q rest (look l) h')
    (hC : C := by first | exact True.intro | omega | exact sd) : AWk P E N ops Q (⟨none, op, ty, pos, after, none⟩ :: rest) (look l) h := AWk_step0 hT hs hC hk
theorem wg (hT : TOk P T) {n : Nat} {Q : (Nat → AV) → List AObj → Prop} {i d j gd : Nat} {want ex : Bool} (hg : gslot ops l j want = some (gd, ex)) (hs : astep T op (evG (look l) op) h = some (v, h, C)) (hd : Nat.blt d N = true) (hgd : Nat.blt gd N = true) (hn : h.length = n)
    (hk : AWd P E N ops (fun _ => List.range n) (fun _ => []) Q rest (i + 1) (look ((d, .gd ex v) :: l)) h) (hC : ex = true → gAll (look l) (gOps op) ∧ C := by intro hg; first | exact ⟨True.intro, True.intro⟩ | exact sg hg) :
    AWd P E N ops (fun _ => List.range n) (fun _ => []) Q (⟨some d, op, ty, pos, after, some (j, want)⟩ :: rest) i (look l) h := AWd_gstep hT hg hs hd hgd hn hC hk
theorem wh (hT : TOk P T) {Q : (Nat → AV) → List AObj → Prop} {d j gd : Nat} {want ex : Bool} (hg : gslot ops l j want = some (gd, ex)) (hs : astep T op (evG (look l) op) h = some (v, h, C)) (hd : Nat.blt d N = true) (hgd : Nat.blt gd N = true)
    (hk : AWk P E N ops Q rest (look ((d, .gd ex v) :: l)) h) (hC : ex = true → gAll (look l) (gOps op) ∧ C := by intro hg; first | exact ⟨True.intro, True.intro⟩ | exact sg hg) :
    AWk P E N ops Q (⟨some d, op, ty, pos, after, some (j, want)⟩ :: rest) (look l) h := AWk_gstep hT hg hs hd hgd hC hk
theorem wx {id : Nat} {Q : Exit → (Nat → AV) → List AObj → Prop} {τ : Nat → AV} (hm : P.follows .mixedOrders = true) (H : AWd P E N ops (fun _ => List.range h.length) (fun _ => []) (Q .normal) ops 0 τ h)
    (hB : lexD ops.toArray (fun _ => List.range h.length) (fun _ => []) ops.length 0 (Array.replicate ops.length false) = true := by kernel_rfl) : AW P E N (.region id ops.toArray true) Q τ h := AW_draw hm hB H

/-! ends -/
variable {rs : List ResultVar} {k : Nat} {Q : AV → List AObj → Prop} {τ : Nat → AV} {r : AV}
theorem rx (h7 : Q v h') (h1 : resA T τ h rs = some v := by exact rfl) (h3 : h' = h.take k := by exact rfl) (h4 : h'.length = k := by exact rfl) (h5 : low k v = true := by exact rfl) (h6 : lowH k h' = true := by exact rfl) : retP T rs k Q .ret τ h := ⟨v, v, h', h1, fun _ _ h => h, h3, h4, h5, h6, h7⟩
theorem rxN (h7 : Q v h') (h1 : resA T τ h rs = some v := by exact rfl) (h3 : h' = h.take k := by exact rfl) (h4 : h'.length = k := by exact rfl) (h5 : low k v = true := by exact rfl) (h6 : lowH k h' = true := by exact rfl) : retP T rs k Q .normal τ h := ⟨v, v, h', h1, fun _ _ h => h, h3, h4, h5, h6, h7⟩
theorem rq (h7 : Q r h') (h1 : resA T τ h rs = some v) (h2 : AV.le v r) (h3 : h' = h.take k := by exact rfl) (h4 : h'.length = k := by exact rfl) (h5 : low k r = true := by exact rfl) (h6 : lowH k h' = true := by exact rfl) : retP T rs k Q .ret τ h := ⟨v, r, h', h1, h2, h3, h4, h5, h6, h7⟩
theorem rqN (h7 : Q r h') (h1 : resA T τ h rs = some v) (h2 : AV.le v r) (h3 : h' = h.take k := by exact rfl) (h4 : h'.length = k := by exact rfl) (h5 : low k r = true := by exact rfl) (h6 : lowH k h' = true := by exact rfl) : retP T rs k Q .normal τ h := ⟨v, r, h', h1, h2, h3, h4, h5, h6, h7⟩
end

theorem li {k : IntKind} {a b : Int} (h : a = b := by first | assumption | omega | (rw [wrap_id (by omega)]; omega) | (simp only [wrap_id (by omega)]; omega)) : AV.le (.d (.int k a)) (.d (.int k b)) := .eq (congrArg (fun z => AV.d (.int k z)) h)
theorem lb {a b : Bool} (h : a = b := by first | assumption | (simp; done) | (simp; omega)) : AV.le (.d (.bool a)) (.d (.bool b)) := .eq (congrArg (fun z => AV.d (.bool z)) h)
theorem ls {sz : Nat} {a b : List (List Dat)} (h : a = b := by first | assumption | (simp; done)) : AV.le (.d (.sl sz a)) (.d (.sl sz b)) := .eq (congrArg (fun z => AV.d (.sl sz z)) h)
theorem lk {sz : Nat} {a b : List (List Dat)} {t : Tok} (h : a = b := by first | assumption | (simp; done)) : AV.le (.sl sz a t) (.sl sz b t) := .eq (congrArg (fun z => AV.sl sz z t) h)
theorem ld {sz : Nat} {a b : List (List Dat)} {t : Tok} (h : a = b := by first | assumption | (simp; done)) : AV.le (.sl sz a t) (.d (.sl sz b)) := .trans .dat (.eq (congrArg (fun z => AV.d (.sl sz z)) h))
theorem lz {a b : List UInt8} (h : a = b := by first | assumption | (simp; done)) : AV.le (.d (.str a)) (.d (.str b)) := .eq (congrArg (fun z => AV.d (.str z)) h)
end Tdoc
/- Rows of any length that one owns: made, read, written, cut, turned into text, handed on as data that does not turn. No program is named here. -/
set_option linter.unusedSimpArgs false
set_option linter.unusedVariables false
namespace Tdoc
open Go

section
variable {P : Program} {E : Env} {T : Tr} {o : Oper} {ρ : Operand → AV} {h h' : List AObj} {v : AV}

/-- The element of a slice type: its size, its bytes, its zero cells. -/
def elemT (T : Tr) (t : Nat) : Option (Nat × Nat × List AV) := match T.find t with
  | some i => match i.kind with
    | .slice e => match T.find e with
      | some ie => match Nat.beq ie.zero.length ie.size with
        | true => some (ie.size, ie.bytes, ie.zero)
        | false => none
      | none => none
    | _ => none
  | none => none

theorem elemT_ok (hT : TOk P T) {t sz by_ : Nat} {z : List AV} (h : elemT T t = some (sz, by_, z)) :
    ∃ e ie, P.underlying t = some (.slice e) ∧ TypeAt P e ie ∧ ie.size = sz ∧ ie.bytes = by_ ∧ ie.zero = z ∧ z.length = sz := by
  unfold elemT at h
  split at h
  · rename_i i hi
    split at h
    · rename_i e hk
      split at h
      · rename_i ie hie
        split at h
        · rename_i hb
          cases h
          obtain ⟨d, hd, hkd⟩ := (hT.at hi).und
          rw [hk] at hkd
          cases d <;> simp [kindOk] at hkd
          subst hkd
          exact ⟨e, ie, hd, hT.at hie, rfl, rfl, rfl, Nat.eq_of_beq_eq_true hb⟩
        · cases h
      · cases h
    · cases h
  · cases h

theorem RepA.row_inv {G : Gh} {v : Value} {i off n cap : Nat} (h : RepA G (.row i off n cap) v) : ∃ b, v = .slice (some ⟨b, off, none⟩) n cap ∧ G.loc i = some b := by cases h with | row _ _ _ r => exact ⟨_, rfl, r⟩

theorem flat_repl {α : Type} (z : List α) : ∀ (n j : Nat), (List.replicate n z).flatten[j]? = if j < n * z.length then z[j % z.length]? else none
  | 0, j => by simp
  | n + 1, j => by
    rw [List.replicate_succ, List.flatten_cons]
    by_cases hj : j < z.length
    · rw [List.getElem?_append_left hj, Nat.mod_eq_of_lt hj]
      rw [if_pos (by rw [Nat.succ_mul]; omega)]
    · rw [List.getElem?_append_right (by omega), flat_repl z n]
      rw [Nat.succ_mul, Nat.mod_eq_sub_mod (a := j) (by omega)]
      by_cases h1 : j - z.length < n * z.length
      · rw [if_pos h1, if_pos (by omega)]
      · rw [if_neg h1, if_neg (by omega)]

/-- A new row of zero elements. -/
theorem makeRow_ok (hT : TOk P T) {t sz by_ : Nat} {z : List AV} {x y : Operand} {k k' : IntKind} {n : Nat} (ho : o.op = .makeSlice t x y) (he : elemT T t = some (sz, by_, z)) (hx : ρ x = .d (.int k (n : Int))) (hy : ρ y = .d (.int k' (n : Int)))
    (hb : by_ * n ≤ 281474976710656) (h63 : n ≤ 9223372036854775807) :
    OpS P E o ρ h (.row h.length 0 n n) (h ++ [.row (List.replicate n z).flatten]) :=
  OpS_of_run fun G e w hw hr => by
    have hx' : RepA G (ρ x) (e x) := hr x (by simp [ho, Op.operands])
    have hy' : RepA G (ρ y) (e y) := hr y (by simp [ho, Op.operands])
    rw [hx] at hx'; rw [hy] at hy'
    obtain ⟨et, ie, h1, h2, h3, h4, h5, h6⟩ := elemT_ok hT he
    obtain ⟨info, g1, g2, g3, zv, g4, g5⟩ := h2.info
    obtain ⟨hl, hc⟩ := zrepL_ok g5
    have hzs : zv.cells.size = sz := by
      have : zv.cells.toList.length = ie.zero.length := hl.symm ▸ rfl
      simp only [Array.length_toList] at this
      rw [this, h5, h6]
    have hbb : (info.bytes : Int) * (n : Int) ≤ 281474976710656 := by
      have : info.bytes * n ≤ 281474976710656 := by rw [g3, h4]; exact hb
      have h9 : ((info.bytes * n : Nat) : Int) ≤ 281474976710656 := by omega
      rwa [Int.natCast_mul] at h9
    have hrun := run_make (P := P) w t et info zv h1 g1 g4 k k' (n : Int) (n : Int) (by omega) (Int.le_refl _) hbb (by omega)
    simp only [Int.toNat_natCast] at hrun
    have hinfo : info.size = sz := by rw [g2, h3]
    have hcells : ∀ (j : Nat) (c : AV) (u : Value), ((List.replicate n z).flatten)[j]? = some c → (madeCells zv.cells (n * info.size))[j]? = some u → RepA G c u ∧ oneC u = true := by
      intro j c u h7 h8
      rw [flat_repl, h6] at h7
      split at h7
      · rename_i hj
        have hlt : j % sz < zv.cells.size := by
          rw [hzs]
          exact Nat.mod_lt _ (by rcases Nat.eq_zero_or_pos sz with h0 | h0; (subst h0; simp at hj); exact h0)
        simp only [madeCells, Array.getElem?_map, Option.map_eq_some_iff] at h8
        obtain ⟨q, hq, rfl⟩ := h8
        have hjq : q = j := by
          have hh := hq
          rw [Array.getElem?_eq_some_iff] at hh
          obtain ⟨_, hh⟩ := hh
          simpa using hh.symm
        subst hjq
        rw [hzs, getElem!_pos zv.cells (q % sz) hlt]
        exact hc G _ c _ (by rw [h5]; exact h7) (by simp [hlt])
      · cases h7
    have hn := hw.newRow (madeCells zv.cells (n * info.size)) et (List.replicate n z).flatten (by rw [size_madeCells, List.length_flatten, List.map_replicate, List.sum_replicate_nat, h6, hinfo])
      hcells { w with heap := w.heap.push (.cells (madeCells zv.cells (n * info.size)) et) } rfl rfl rfl rfl
    refine ⟨.slice (some ⟨w.heap.size, 0, none⟩) n n, _, _, ?_, hn.1, hn.2, .row 0 n n ?_⟩
    · unfold execOp
      simp only [ho, hx'.int_inv, hy'.int_inv, Sem.run_bind, hrun, Result.andThen_ok]
      rfl
    · show (if h.length = h.length then _ else _) = _; simp

theorem flat_one {α : Type} (a : α) : ∀ n, (List.replicate n [a]).flatten = List.replicate n a
  | 0 => rfl
  | n + 1 => by rw [List.replicate_succ, List.flatten_cons, flat_one a n]; rfl

/-- The same for elements of one cell. -/
theorem makeRow1_ok (hT : TOk P T) {t by_ : Nat} {z : AV} {x y : Operand} {k k' : IntKind} {n : Nat} (ho : o.op = .makeSlice t x y) (he : elemT T t = some (1, by_, [z])) (hx : ρ x = .d (.int k (n : Int))) (hy : ρ y = .d (.int k' (n : Int)))
    (hb : by_ * n ≤ 281474976710656) (h63 : n ≤ 9223372036854775807) :
    OpS P E o ρ h (.row h.length 0 n n) (h ++ [.row (List.replicate n z)]) := by
  have := makeRow_ok (E := E) (h := h) hT ho he hx hy hb h63
  rwa [flat_one] at this

/-- The address of an element of an owned row. -/
theorem rowAddr_ok (hT : TOk P T) {t sz i off n cap : Nat} {x ix : Operand} {k : IntKind} {j : Int} (ho : o.op = .indexAddr t x ix) (hs : sliceElem T t sz = true)
    (hx : ρ x = .row i off n cap) (hix : ρ ix = .d (.int k j)) (h0 : 0 ≤ j ∧ j < (n : Int)) : OpP P o ρ (.ptr i (off + j.toNat * sz)) := by
  intro G e w hi hr
  have hx' : RepA G (ρ x) (e x) := hr x (by simp [ho, Op.operands])
  have hix' : RepA G (ρ ix) (e ix) := hr ix (by simp [ho, Op.operands])
  rw [hx] at hx'; rw [hix] at hix'
  obtain ⟨et, ie, h1, h2, h3⟩ := sliceElem_ok hT hs
  obtain ⟨b, hv, hl⟩ := hx'.row_inv
  refine ⟨.pointer (some ⟨b, off + j.toNat * sz, none⟩), ?_, .ptr _ hl⟩
  unfold execOp
  simp only [ho, Sem.run_bind]
  rw [hv, hix'.int_inv]
  simp [Instr.indexAt, asIntOf, run_underlying h1, h0.1, h0.2, h2.run_size, h3, add_mk]

/-- A store into one cell of a row. -/
theorem store1_ok (hT : TOk P T) {t i off : Nat} {ti : TI} {x y : Operand} {cells : List AV} (ho : o.op = .store t x y) (hx : ρ x = .ptr i off) (hi : h[i]? = some (.row cells)) (hf : T.find t = some ti) (hsz : Nat.beq ti.size 1 = true)
    (hs : scalarA (ρ y) = true) (hlt : off < cells.length) : OpS P E o ρ h .any (h.set i (.row (cells.set off (ρ y)))) := by
  refine store_ok hT ho hx hi ?_
  have hc : cellsA (ρ y) = some [ρ y] := by
    generalize ρ y = a at hs ⊢
    cases a <;> first | rfl | cases hs
  have h1 := Nat.eq_of_beq_eq_true hsz
  have h2 : Nat.ble (off + 1) cells.length = true := Nat.ble_eq_true_of_le hlt
  simp [storeA, hf, hc, h1, h2, setRun]

/-- A load of one cell of a row. -/
theorem load1_ok (hT : TOk P T) {t i off : Nat} {ti : TI} {x : Operand} {cells : List AV} (ho : o.op = .load t x) (hx : ρ x = .ptr i off) (hi : h[i]? = some (.row cells)) (hf : T.find t = some ti) (ha : ti.agg = false)
    (hv : cells[off]? = some v) : OpS P E o ρ h v h := by
  refine load_ok hT ho hx hi ?_
  simp [loadA, hf, ha, hv]

/-- A part of an owned row. -/
theorem rowCut_ok (hT : TOk P T) {t sz i off n cap : Nat} {x : Operand} {lo hi : Option Operand} {l r : Nat} (ho : o.op = .slice t x lo hi none) (hs : sliceElem T t sz = true) (hx : ρ x = .row i off n cap)
    (hlo : match lo with | none => l = 0 | some y => ∃ k, ρ y = .d (.int k (l : Int))) (hhi : match hi with | none => r = n | some y => ∃ k, ρ y = .d (.int k (r : Int))) (hle : l ≤ r) (hc : r ≤ cap) :
    OpP P o ρ (.row i (if cap = l then off else off + l * sz) (r - l) (cap - l)) := by
  intro G e w hi' hr
  have hx' : RepA G (ρ x) (e x) := hr x (by simp [ho, Op.operands])
  rw [hx] at hx'
  obtain ⟨et, ie, h1, h2, h3⟩ := sliceElem_ok hT hs
  obtain ⟨b, hv, hl⟩ := hx'.row_inv
  have hlo' : match lo with | none => l = 0 | some y => ∃ k, e y = .int k (l : Int) := by
    cases lo with
    | none => exact hlo
    | some y =>
      obtain ⟨k, hk⟩ := hlo
      have := hr y (by simp [ho, Op.operands])
      rw [hk] at this
      exact ⟨k, this.int_inv⟩
  have hhi' : match hi with | none => r = n | some y => ∃ k, e y = .int k (r : Int) := by
    cases hi with
    | none => exact hhi
    | some y =>
      obtain ⟨k, hk⟩ := hhi
      have := hr y (by simp [ho, Op.operands])
      rw [hk] at this
      exact ⟨k, this.int_inv⟩
  have hb1 : (0 : Int) ≤ (r : Int) ∧ (r : Int) ≤ (cap : Int) := by omega
  have hb2 : (0 : Int) ≤ (l : Int) ∧ (l : Int) ≤ (r : Int) := by omega
  refine ⟨.slice (some ⟨b, if cap = l then off else off + l * sz, none⟩) (r - l) (cap - l), ?_, .row _ _ _ hl⟩
  unfold execOp
  simp only [ho, Sem.run_bind]
  rw [hv]
  have haddr : (if cap = l then some (⟨b, off, none⟩ : Addr) else some ((⟨b, off, none⟩ : Addr).add (l * sz))) = some ⟨b, if cap = l then off else off + l * sz, none⟩ := by
    split
    · rfl
    · rw [add_mk]
  cases lo with
  | none =>
    simp only at hlo'; subst hlo'
    cases hi with
    | none =>
      simp only at hhi'; subst hhi'
      by_cases hcl : cap = 0
      · subst hcl; simp [Instr.sliceAt, Instr.slice, run_underlying h1, Instr.sliceBounds, h2.run_size, h3]
      · simp [Instr.sliceAt, Instr.slice, run_underlying h1, Instr.sliceBounds, h2.run_size, h3, hcl, add_mk]
    | some y =>
      obtain ⟨k, hk⟩ := hhi'
      by_cases hcl : cap = 0
      · have hr0 : r = 0 := by omega
        subst hcl; subst hr0
        have hb3 := fun (w : World) => run_bound_in (P := P) (w := w) k ((0 : Nat) : Int) 0 .sliceAcap hb1
        simp only [Int.natCast_zero, Int.toNat_zero] at hb3
        simp [Instr.sliceAt, Instr.slice, run_underlying h1, Instr.sliceBounds, h2.run_size, h3, hk, hb3]
      · simp [Instr.sliceAt, Instr.slice, run_underlying h1, Instr.sliceBounds, h2.run_size, h3, hk, run_bound_in _ _ _ _ hb1, hcl, add_mk]
  | some yl =>
    obtain ⟨kl, hkl⟩ := hlo'
    cases hi with
    | none =>
      simp only at hhi'; subst hhi'
      by_cases hcl : cap = l
      · have : r = l := by omega
        subst hcl; subst this; simp [Instr.sliceAt, Instr.slice, run_underlying h1, Instr.sliceBounds, h2.run_size, h3, hkl, run_bound_in _ _ _ _ hb2]
      · simp [Instr.sliceAt, Instr.slice, run_underlying h1, Instr.sliceBounds, h2.run_size, h3, hkl, run_bound_in _ _ _ _ hb2, hcl, add_mk]
    | some y =>
      obtain ⟨k, hk⟩ := hhi'
      by_cases hcl : cap = l
      · have : r = l := by omega
        subst hcl; subst this; simp [Instr.sliceAt, Instr.slice, run_underlying h1, Instr.sliceBounds, h2.run_size, h3, hkl, hk, run_bound_in _ _ _ _ hb1, run_bound_in _ _ _ _ hb2]
      · simp [Instr.sliceAt, Instr.slice, run_underlying h1, Instr.sliceBounds, h2.run_size, h3, hkl, hk, run_bound_in _ _ _ _ hb1, run_bound_in _ _ _ _ hb2, hcl, add_mk]

/-- Bytes as cells. -/
def byteAV (s : List UInt8) : List AV := s.map fun b => .d (.int .u8 (b.toNat : Int))

/-- An owned row of bytes as text. -/
theorem rowStr_ok (hT : TOk P T) {t t2 i off n cap : Nat} {x : Operand} {cells : List AV} {s : List UInt8} (ho : o.op = .convert t t2 x) (hb : (isByteSlice T t && isStrT T t2) = true) (hx : ρ x = .row i off n cap) (hi : h[i]? = some (.row cells))
    (hs : s.length = n) (hc : ∀ (j : Nat) (c : UInt8), s[j]? = some c → cells[off + j]? = some (.d (.int .u8 (c.toNat : Int)))) : OpS P E o ρ h (.d (.str s)) h :=
  OpS_of_run fun G e w hw hr => by
    have hx' : RepA G (ρ x) (e x) := hr x (by simp [ho, Op.operands])
    rw [hx] at hx'
    obtain ⟨b, hv, hl⟩ := hx'.row_inv
    obtain ⟨b', hl', hown, hrow, himm⟩ := hw.obj i _ hi
    rw [hl] at hl'; cases hl'
    simp only [Bool.and_eq_true] at hb
    obtain ⟨et, h1, h2⟩ := isByteSlice_ok hT hb.1
    have h3 := und_of_str hT hb.2
    let ns : List Int := s.map fun c => (c.toNat : Int)
    have hnl : ns.length = n := by simp [ns, hs]
    have hld : (loadCells ⟨b, off, none⟩ n).run P w = .ok (ns.map (Value.int .u8)).toArray w := by
      have := run_loadCells (P := P) w ⟨b, off, none⟩ n (fun j => Value.int .u8 (ns.getD j 0)) (fun j hj => by
        have hsj : s[j]? = some s[j] := by simp [hs, hj]
        obtain ⟨u, u1, u2, u3, _⟩ := hrow _ _ (hc j _ hsj)
        rw [u3.int_inv] at u1
        rw [add_mk, u1]
        simp [List.getD, ns, hs, hj])
      rw [this]
      congr 2
      apply List.ext_getElem?
      intro j
      by_cases hj : j < n
      · have hj' : j < ns.length := by omega
        simp [hj, hj', List.getD]
      · have hj' : ¬ j < ns.length := by omega
        simp [hj, hj', List.getElem?_eq_none (Nat.le_of_not_lt hj')]
    refine ⟨.string ⟨s.toArray⟩, w, G, ?_, .refl G, hw, .d (.str _)⟩
    unfold execOp
    simp only [ho, Sem.run_bind]
    rw [hv]
    have hmap : (ns.map fun n => UInt8.ofNat n.toNat) = s := by simp [ns, Function.comp_def]
    simp [Go.convert, run_underlying h1, run_underlying h2, run_underlying h3, run_bytesToString w _ n cap ns hld, foldl_push, hmap]
end

/-! ### an owned row handed on as data that does not turn -/
theorem WRel.freeze {E : Env} {G : Gh} {h : List AObj} {w : World} {i b : Nat} {cells : List AV} (hw : WRel E G h w) (hi : h[i]? = some (.row cells)) (hl : G.loc i = some b) :
    let G' : Gh := { G with imm := fun a => if a.block = b ∧ a.spot = none ∧ a.off < cells.length then w.cell? a else G.imm a }
    G.le G' ∧ WRel E G' (h.set i .dead) w ∧ ∀ (j : Nat) (d : Dat) (c : AV), cells[j]? = some c → toDat c = some d → ∃ u, G'.imm ⟨b, j, none⟩ = some u ∧ RepD G'.imm d u := by
  intro G'
  obtain ⟨b', hl', hown, hrow, himm⟩ := hw.obj i _ hi
  rw [hl] at hl'; cases hl'
  have hle : G.le G' := by
    refine ⟨fun a v hv => ?_, fun _ _ h => h, fun _ _ _ h => h, fun _ _ h => h⟩
    have hne : ¬ (a.block = b ∧ a.spot = none ∧ a.off < cells.length) := fun hh => by rw [himm.1 a hh.1] at hv; cases hv
    show (if _ then _ else _) = _
    rw [if_neg hne]; exact hv
  refine ⟨hle, ?_, fun j d c hc hd => ?_⟩
  · refine ⟨hw.le.trans hle, fun a v hv => ?_, fun a v hv => ?_, hw.keep, hw.size, hw.os, hw.tape, hw.output, hw.own, fun k hk => hw.fresh k (by simpa using hk), fun k o hk => ?_⟩
    · simp only [G'] at hv
      split at hv
      · exact hv
      · exact hw.imm a v hv
    · simp only [G'] at hv
      split at hv
      · rename_i hh
        right; rw [hh.1]; exact (hw.own b i hown).2
      · exact hw.immNew a v hv
    · rw [List.getElem?_set] at hk
      by_cases hik : i = k
      · subst hik
        simp only [if_true] at hk
        split at hk
        · cases hk; trivial
        · cases hk
      · rw [if_neg hik] at hk
        refine (hw.obj k o hk).keep hle (fun c hc => ⟨rfl, fun a ha => ?_⟩) (fun _ h => h) (fun h => h)
        have hcb : c ≠ b := fun hh => by subst hh; rw [hown] at hc; cases hc; exact hik rfl
        simp only [G']
        rw [if_neg (fun hh => hcb (ha.symm.trans hh.1))]
  · obtain ⟨u, u1, u2, u3, _⟩ := hrow j c hc
    refine ⟨u, ?_, (toDat_ok u3 hd).mono hle.imm⟩
    simp only [G']
    have hlt := (List.getElem?_eq_some_iff.1 hc).1
    simp [hlt, u1]

/-- What a row holds from a place on, as elements. -/
def RowDat (cells : List AV) (off sz : Nat) (es : List (List Dat)) : Prop :=
  (∀ e, e ∈ es → e.length = sz) ∧ ∀ (i : Nat) (e : List Dat) (j : Nat) (d : Dat), es[i]? = some e → e[j]? = some d → ∃ c, cells[off + (i * sz + j)]? = some c ∧ toDat c = some d

theorem Rel_freeze {E : Env} {N : Nat} {l : List (Nat × AV)} {h : List AObj} {t i off n cap sz : Nat} {cells : List AV} {es : List (List Dat)} (ht : look l t = .row i off n cap) (hi : h[i]? = some (.row cells)) (hn : es.length = n) (hcap : n ≤ cap) (hd : RowDat cells off sz es) :
    ∀ a w, Rel E N (look l) h a w → Rel E N (look ((t, .d (.sl sz es)) :: l)) (h.set i .dead) a w := by
  intro a w ⟨h1, h2, G, hw, hr⟩
  have hx := hr t
  rw [ht] at hx
  obtain ⟨b, hv, hl⟩ := hx.row_inv
  obtain ⟨hle, hw', hc⟩ := hw.freeze hi hl
  refine ⟨h1, h2, _, hw', fun s => ?_⟩
  show RepA _ (bif Nat.beq s t then _ else look l s) _
  cases hb : Nat.beq s t with
  | false => exact (hr s).mono hle
  | true =>
    obtain rfl := Nat.eq_of_beq_eq_true hb
    rw [hv]
    subst hn
    have hex : ∀ (k : Nat), ∃ u : Value, ∀ (i : Nat) (e : List Dat) (j : Nat) (d : Dat), es[i]? = some e → e[j]? = some d → i * sz + j = k →
        ({ G with imm := fun a => if a.block = b ∧ a.spot = none ∧ a.off < cells.length then w.cell? a else G.imm a } : Gh).imm ⟨b, off + k, none⟩ = some u := by
      intro k
      rcases hh : ({ G with imm := fun a => if a.block = b ∧ a.spot = none ∧ a.off < cells.length then w.cell? a else G.imm a } : Gh).imm ⟨b, off + k, none⟩ with _ | u
      · refine ⟨undef, fun i e j d he hj hk => ?_⟩
        obtain ⟨c, g1, g2⟩ := hd.2 i e j d he hj
        obtain ⟨u, g3, _⟩ := hc _ d c g1 g2
        rw [hk] at g3
        rw [hh] at g3; cases g3
      · exact ⟨u, fun _ _ _ _ _ _ _ => rfl⟩
    refine .d (.sl sz es ⟨b, off, none⟩ cap (fun k => Classical.choose (hex k)) rfl hcap hd.1 (fun i e j d he hj => ?_) (fun i e j d he hj => ?_))
    · rw [add_mk]
      exact Classical.choose_spec (hex (i * sz + j)) i e j d he hj rfl
    · have := Classical.choose_spec (hex (i * sz + j)) i e j d he hj rfl
      obtain ⟨c, g1, g2⟩ := hd.2 i e j d he hj
      obtain ⟨u, g3, g4⟩ := hc _ d c g1 g2
      have hu := Option.some.inj (g3.symm.trans this)
      exact hu ▸ g4

theorem AW_freeze {P : Program} {E : Env} {N : Nat} {Q : Exit → (Nat → AV) → List AObj → Prop} {c : Code} {l : List (Nat × AV)} {h : List AObj} (t i sz : Nat) {off n cap : Nat} {cells : List AV} (es : List (List Dat)) (ht : look l t = .row i off n cap) (hi : h[i]? = some (.row cells))
    (hn : es.length = n) (hcap : n ≤ cap) (hd : RowDat cells off sz es) (hc : AW P E N c Q (look ((t, .d (.sl sz es)) :: l)) (h.set i .dead)) : AW P E N c Q (look l) h :=
  AW_sub (Rel_freeze ht hi hn hcap hd) hc
end Tdoc
/- New objects laid into a room, so that a callee can hand them back. No program is named here. -/
set_option linter.unusedSimpArgs false
set_option linter.unusedVariables false
namespace Tdoc
open Go

section
variable {P : Program} {E : Env} {T : Tr} {o : Oper} {ρ : Operand → AV} {h h' : List AObj} {v : AV}

theorem WRel.newRowAtW {G : Gh} {w : World} {i0 : Nat} (hw : WRel E G h w) (hroom : h[i0]? = some .room) (cs : Array Value) (t : TypeId) (cells : List AV) (hs : cells.length ≤ cs.size)
    (hc : ∀ (j : Nat) (c : AV) (u : Value), cells[j]? = some c → cs[j]? = some u → RepA G c u ∧ oneC u = true) (w' : World) (hh : w'.heap = w.heap.push (.cells cs t)) (ho : w'.os = w.os) (ht : w'.tape = w.tape) (hout : w'.output = w.output) :
    G.le (rowNew G i0 w.heap.size) ∧ WRel E (rowNew G i0 w.heap.size) (h.set i0 (.row cells)) w' := by
  have hf := hw.obj i0 _ hroom
  have hi0 : i0 < h.length := (List.getElem?_eq_some_iff.1 hroom).1
  have hown : G.own w.heap.size = none := by
    cases ho : G.own w.heap.size with
    | none => rfl
    | some i => have := (hw.own _ _ ho).1; omega
  have hle : G.le (rowNew G i0 w.heap.size) := by
    refine ⟨fun _ _ x => x, fun i b x => ?_, fun _ _ _ x => x, fun b i x => ?_⟩
    · show (if i = i0 then some w.heap.size else G.loc i) = some b
      split
      · rename_i e; subst e; rw [hf.1] at x; cases x
      · exact x
    · show (if b = w.heap.size then some i0 else G.own b) = some i
      split
      · rename_i e; subst e; rw [hown] at x; cases x
      · exact x
  have hK : ¬ E.K w.heap.size := fun hk => by have := hw.size; have := hk.1; omega
  refine ⟨hle, hw.le.trans hle, fun a v ha => ?_, hw.immNew, fun b hb => ?_, by rw [hh]; simp; have := hw.size; omega, ho.trans hw.os, ht.trans hw.tape, hout.trans hw.output, fun b i hb => ?_, fun i hi => ?_, fun i ob hi => ?_⟩
  · have hc := hw.imm a v ha
    rw [World.cell?_of_block (w := w) (by rw [hh]; exact heap_push_old _ _ _ (World.block_lt_of_cell? _ _ hc))]
    exact hc
  · rw [hh, heap_push_old _ _ _ (Nat.lt_of_lt_of_le hb.1 hw.size)]; exact hw.keep b hb
  · have hb' : (if b = w.heap.size then some i0 else G.own b) = some i := hb
    split at hb'
    · rename_i e; subst e; exact ⟨by rw [hh]; simp, hK⟩
    · have := hw.own b i hb'; exact ⟨by rw [hh]; simp; omega, this.2⟩
  · simp only [List.length_set] at hi
    have := hw.fresh i (by omega)
    refine ⟨?_, this.2⟩
    show (if i = i0 then some w.heap.size else G.loc i) = none
    rw [if_neg (by omega)]; exact this.1
  · rw [List.getElem?_set] at hi
    by_cases hie : i0 = i
    · subst hie
      simp only [if_true, hi0] at hi
      cases hi
      refine ⟨w.heap.size, ?_, ?_, fun j c hj => ?_, fun a ha => ?_, fun n => hf.2 n⟩
      · show (if i0 = i0 then _ else _) = _; simp
      · show (if w.heap.size = w.heap.size then _ else _) = _; simp
      · have hjl : j < cs.size := Nat.lt_of_lt_of_le (List.getElem?_eq_some_iff.1 hj).1 hs
        obtain ⟨u, hu⟩ : ∃ u, cs[j]? = some u := ⟨cs[j], by simp [hjl]⟩
        obtain ⟨r1, r2⟩ := hc j c u hj hu
        exact ⟨u, by simp [World.cell?, hh, hu], r2, r1.mono hle, by simp [World.frozen?, hh]⟩
      · cases hg : G.imm a with
        | none => exact hg
        | some v => have := World.block_lt_of_cell? _ _ (hw.imm a v hg); omega
    · rw [if_neg hie] at hi
      refine (hw.obj i ob hi).keep hle (fun b hb => ?_) (fun n hn => hn) (fun hn => by show (if i = i0 then _ else G.loc i) = none; rw [if_neg (fun e => hie e.symm)]; exact hn)
      exact ⟨by rw [hh]; exact heap_push_old _ _ _ (hw.own b i hb).1, fun a ha => rfl⟩

theorem WRel.newRowAt {G : Gh} {w : World} {i0 : Nat} (hw : WRel E G h w) (hroom : h[i0]? = some .room) (cs : Array Value) (t : TypeId) (cells : List AV) (hs : cs.size = cells.length)
    (hc : ∀ (j : Nat) (c : AV) (u : Value), cells[j]? = some c → cs[j]? = some u → RepA G c u ∧ oneC u = true) (w' : World) (hh : w'.heap = w.heap.push (.cells cs t)) (ho : w'.os = w.os) (ht : w'.tape = w.tape) (hout : w'.output = w.output) :
    G.le (rowNew G i0 w.heap.size) ∧ WRel E (rowNew G i0 w.heap.size) (h.set i0 (.row cells)) w' :=
  hw.newRowAtW hroom cs t cells (Nat.le_of_eq hs.symm) hc w' hh ho ht hout

theorem allocAt_ok (hT : TOk P T) {t i0 : Nat} {i : TI} (ho : o.op = .alloc t) (hf : T.find t = some i) (hroom : h[i0]? = some .room) : OpS P E o ρ h (.ptr i0 0) (h.set i0 (.row i.zero)) :=
  OpS_of_run fun G e w hw hr => by
    have hti := hT.at hf
    obtain ⟨z, hz, hzc⟩ := hti.run_zero (w := w)
    obtain ⟨hl, hc⟩ := zrepL_ok hzc
    have hn := hw.newRowAt hroom z.cells t i.zero (by simp [hl]) (fun j c u h1 h2 => hc G j c u h1 (by simpa using h2)) { w with heap := w.heap.push (.cells z.cells t) } rfl rfl rfl rfl
    refine ⟨.pointer (some ⟨w.heap.size, 0, none⟩), _, _, ?_, hn.1, hn.2, .ptr 0 ?_⟩
    · unfold execOp
      simp [ho, Instr.alloc, hz, newVar, newRow]
    · show (if i0 = i0 then _ else _) = _; simp

theorem boxAt_ok {t i0 : Nat} {x : Operand} {cs : List AV} (ho : o.op = .box t x) (hx : cellsA (ρ x) = some cs) (hroom : h[i0]? = some .room) : OpS P E o ρ h (.ptr i0 0) (h.set i0 (.row cs)) :=
  OpS_of_run fun G e w hw hr => by
    have hx' : RepA G (ρ x) (e x) := hr x (by simp [ho, Op.operands])
    obtain ⟨hl, hc⟩ := cellsA_ok hx' hx
    have hn := hw.newRowAt hroom (e x).cells t cs hl (fun j c u h1 h2 => hc j c u h1 h2) { w with heap := w.heap.push (.cells (e x).cells t) } rfl rfl rfl rfl
    refine ⟨.pointer (some ⟨w.heap.size, 0, none⟩), _, _, ?_, hn.1, hn.2, .ptr 0 ?_⟩
    · unfold execOp
      simp [ho, Instr.box, newVar, newRow]
    · show (if i0 = i0 then _ else _) = _; simp

/-! numbers: the greater, the smaller of two -/
theorem max2_ok {x y : Operand} {t1 t2 : Array TypeId} {k : IntKind} {a b : Int} (ho : o.op = .call { callee := .builtin .max, args := #[x, y], argTypes := t1 }) (hx : ρ x = .d (.int k a)) (hy : ρ y = .d (.int k b)) : OpP P o ρ (.d (.int k (if b > a then b else a))) := by
  intro G e w hi hr
  have hx' : RepA G (ρ x) (e x) := hr x (by simp [ho, Op.operands, Call.operands])
  have hy' : RepA G (ρ y) (e y) := hr y (by simp [ho, Op.operands, Call.operands])
  rw [hx] at hx'; rw [hy] at hy'
  refine ⟨.int k (if b > a then b else a), ?_, .d (.int _ _)⟩
  unfold execOp
  simp [ho, resolve, invoke, builtin, hx'.int_inv, hy'.int_inv, run_max_int2 w]

theorem min2_ok {x y : Operand} {t1 t2 : Array TypeId} {k : IntKind} {a b : Int} (ho : o.op = .call { callee := .builtin .min, args := #[x, y], argTypes := t1 }) (hx : ρ x = .d (.int k a)) (hy : ρ y = .d (.int k b)) : OpP P o ρ (.d (.int k (if b < a then b else a))) := by
  intro G e w hi hr
  have hx' : RepA G (ρ x) (e x) := hr x (by simp [ho, Op.operands, Call.operands])
  have hy' : RepA G (ρ y) (e y) := hr y (by simp [ho, Op.operands, Call.operands])
  rw [hx] at hx'; rw [hy] at hy'
  refine ⟨.int k (if b < a then b else a), ?_, .d (.int _ _)⟩
  unfold execOp
  simp [ho, resolve, invoke, builtin, hx'.int_inv, hy'.int_inv, run_min_int2 w]
end

/-! steps by a contract, the heap behind them laid open -/
theorem force_some {h h' : List AObj} (hh : forceS h some = some h') : h' = h := by rw [forceS_eq] at hh; exact (Option.some.inj hh).symm

theorem AWk_opF {P : Program} {E : Env} {N : Nat} {ops : List Oper} {Q : (Nat → AV) → List AObj → Prop} {d : Nat} {op : Op} {ty : TypeId} {pos : String} {after : Array Edge} {rest : List Oper}
    {l : List (Nat × AV)} {h h1 h' : List AObj} {v : AV} (hs : OpS P E ⟨some d, op, ty, pos, after, none⟩ (ev (look l)) h v h1) (hd : Nat.blt d N = true) (hh : forceS h1 some = some h') (hk : AWk P E N ops Q rest (look ((d, v) :: l)) h') :
    AWk P E N ops Q (⟨some d, op, ty, pos, after, none⟩ :: rest) (look l) h := by
  obtain rfl := force_some hh
  exact AWk_op hs hd hk

theorem AWk_op0 {P : Program} {E : Env} {N : Nat} {ops : List Oper} {Q : (Nat → AV) → List AObj → Prop} {op : Op} {ty : TypeId} {pos : String} {after : Array Edge} {rest : List Oper}
    {l : List (Nat × AV)} {h h1 h' : List AObj} {v : AV} (hs : OpS P E ⟨none, op, ty, pos, after, none⟩ (ev (look l)) h v h1) (hh : forceS h1 some = some h') (hk : AWk P E N ops Q rest (look l) h') :
    AWk P E N ops Q (⟨none, op, ty, pos, after, none⟩ :: rest) (look l) h := by
  obtain rfl := force_some hh
  exact ⟨_, ⟨rfl, OpR_of_S hs⟩, fun v' h'' ⟨h1, h2⟩ => by subst h1; subst h2; exact hk⟩
end Tdoc
/- Plain: bits of numbers, as sums. No program is named here. -/
set_option linter.unusedSimpArgs false
set_option linter.unusedVariables false
namespace Tdoc
open Go

theorem wrapu8 {n : Int} (h : 0 ≤ n ∧ n ≤ 255) : IntKind.u8.wrap n = n := by
  simp only [IntKind.wrap, IntKind.signed, IntKind.bits]
  simp
  omega

theorem wrapu8_mod (n : Int) : IntKind.u8.wrap n = n % 256 := by
  simp only [IntKind.wrap, IntKind.signed, IntKind.bits]
  simp

theorem ofInt_nat (n : Nat) : BitVec.ofInt 64 (n : Int) = BitVec.ofNat 64 n := by
  apply BitVec.eq_of_toNat_eq
  simp [BitVec.toNat_ofInt]

theorem and_nat {a b : Nat} (ha : a < 9223372036854775808) (hb : b < 9223372036854775808) :
    IntKind.i64.wrap ((BitVec.ofInt IntKind.i64.bits (a : Int) &&& BitVec.ofInt IntKind.i64.bits (b : Int)).toNat : Int) = ((a &&& b : Nat) : Int) := by
  have h : (BitVec.ofInt IntKind.i64.bits (a : Int) &&& BitVec.ofInt IntKind.i64.bits (b : Int)).toNat = a &&& b := by
    show (BitVec.ofInt 64 (a : Int) &&& BitVec.ofInt 64 (b : Int)).toNat = a &&& b
    rw [ofInt_nat, ofInt_nat, BitVec.toNat_and, BitVec.toNat_ofNat, BitVec.toNat_ofNat, Nat.mod_eq_of_lt (by omega), Nat.mod_eq_of_lt (by omega)]
  rw [h]
  have := Nat.and_le_left (n := a) (m := b)
  exact wrap_id (by omega)

theorem or_nat {a b : Nat} (ha : a < 9223372036854775808) (hb : b < 9223372036854775808) :
    IntKind.i64.wrap ((BitVec.ofInt IntKind.i64.bits (a : Int) ||| BitVec.ofInt IntKind.i64.bits (b : Int)).toNat : Int) = ((a ||| b : Nat) : Int) := by
  have h : (BitVec.ofInt IntKind.i64.bits (a : Int) ||| BitVec.ofInt IntKind.i64.bits (b : Int)).toNat = a ||| b := by
    show (BitVec.ofInt 64 (a : Int) ||| BitVec.ofInt 64 (b : Int)).toNat = a ||| b
    rw [ofInt_nat, ofInt_nat, BitVec.toNat_or, BitVec.toNat_ofNat, BitVec.toNat_ofNat, Nat.mod_eq_of_lt (by omega), Nat.mod_eq_of_lt (by omega)]
  rw [h]
  have : a ||| b < 2 ^ 63 := Nat.or_lt_two_pow (by omega) (by omega)
  exact wrap_id (by omega)

theorem or_nat8 {a b : Nat} (ha : a < 256) (hb : b < 256) :
    IntKind.u8.wrap ((BitVec.ofInt IntKind.u8.bits (a : Int) ||| BitVec.ofInt IntKind.u8.bits (b : Int)).toNat : Int) = ((a ||| b : Nat) : Int) := by
  have h8 : ∀ n : Nat, BitVec.ofInt 8 (n : Int) = BitVec.ofNat 8 n := fun n => by
    apply BitVec.eq_of_toNat_eq
    simp [BitVec.toNat_ofInt]
  have h : (BitVec.ofInt IntKind.u8.bits (a : Int) ||| BitVec.ofInt IntKind.u8.bits (b : Int)).toNat = a ||| b := by
    show (BitVec.ofInt 8 (a : Int) ||| BitVec.ofInt 8 (b : Int)).toNat = a ||| b
    rw [h8, h8, BitVec.toNat_or, BitVec.toNat_ofNat, BitVec.toNat_ofNat, Nat.mod_eq_of_lt (by omega), Nat.mod_eq_of_lt (by omega)]
  rw [h]
  have : a ||| b < 2 ^ 8 := Nat.or_lt_two_pow (by omega) (by omega)
  exact wrapu8 (by omega)

/-- The low k bits. -/
theorem mask_nat (a k : Nat) : a &&& (2 ^ k - 1) = a % 2 ^ k := Nat.and_two_pow_sub_one_eq_mod a k

/-- One bit. -/
theorem bit_nat (a k : Nat) : a &&& 2 ^ k = 2 ^ k * (a / 2 ^ k % 2) := by
  apply Nat.eq_of_testBit_eq
  intro i
  rw [Nat.testBit_and, Nat.testBit_two_pow, Nat.mul_comm, Nat.testBit_mul_two_pow]
  by_cases h : k = i
  · subst h
    simp only [decide_true, Bool.and_true, Nat.le_refl, Nat.sub_self, Bool.true_and]
    rw [Nat.testBit_eq_decide_div_mod_eq, Nat.testBit_eq_decide_div_mod_eq]
    congr 1
    simp
  · simp only [h, decide_false, Bool.and_false]
    by_cases hk : k ≤ i
    · have h2 : i - k ≠ 0 := by omega
      simp only [hk, decide_true, Bool.true_and]
      rw [Nat.testBit_eq_decide_div_mod_eq]
      have h3 : a / 2 ^ k % 2 / 2 ^ (i - k) = 0 := by
        apply Nat.div_eq_of_lt
        have h4 : a / 2 ^ k % 2 < 2 := Nat.mod_lt _ (by omega)
        have h5 : 2 ^ 1 ≤ 2 ^ (i - k) := Nat.pow_le_pow_right (by omega) (by omega)
        omega
      rw [h3]; simp
    · simp [hk]

/-- A part that was moved up, and one that fits below it. -/
theorem shl_or (a b k : Nat) (h : b < 2 ^ k) : a * 2 ^ k ||| b = a * 2 ^ k + b := by
  rw [Nat.mul_comm, ← Nat.two_pow_add_eq_or_of_lt h]

theorem shr_nat (a k : Nat) : Int.fdiv (a : Int) ((2 : Int) ^ k) = ((a / 2 ^ k : Nat) : Int) := by
  rw [Int.fdiv_eq_ediv_of_nonneg _ (by exact Int.le_of_lt (Int.pow_pos (by omega)))]
  simp
end Tdoc
/- Rows that one owns, writes and appends to ('buf'): made, read, written, appended to, turned into text, handed on as data. No program is named here. -/
set_option linter.unusedSimpArgs false
set_option linter.unusedVariables false
namespace Tdoc
open Go

theorem RepA.bm_inv {G : Gh} {v : Value} {i n : Nat} (h : RepA G (.bm i n) v) : ∃ a cap, v = .slice a n cap ∧ G.rt i n = some (a, cap) := by cases h with | bm a cap r _ => exact ⟨a, cap, rfl, r⟩
theorem RepA.bm_inv2 {G : Gh} {v : Value} {i n : Nat} (h : RepA G (.bm i n) v) : ∃ a cap, v = .slice a n cap ∧ G.rt i n = some (a, cap) ∧ (a = none → n = 0) := by cases h with | bm a cap r hz => exact ⟨a, cap, rfl, r, hz⟩
theorem RepA.bp_inv {G : Gh} {v : Value} {i n k : Nat} (h : RepA G (.bp i n k) v) : ∃ p cap, v = .pointer (some (p.add k)) ∧ G.rt i n = some (some p, cap) := by cases h with | bp p cap _ r => exact ⟨p, cap, rfl, r⟩

/-- An object turned, and one block of its own. -/
theorem WRel.bufAt {E : Env} {G G' : Gh} {h : List AObj} {w w' : World} {i bl : Nat} {ob ob' : AObj} (hw : WRel E G h w) (hi : h[i]? = some ob) (hle : G.le G') (himm : ∀ a, G'.imm a = G.imm a) (hown : ∀ b, G'.own b = G.own b) (hloc : ∀ j, G'.loc j = G.loc j)
    (hrt : ∀ j n, j ≠ i → G'.rt j n = G.rt j n) (hbl : G.own bl = some i) (hcell : ∀ a v, G.imm a = some v → w'.cell? a = some v) (hheap : ∀ k, k ≠ bl → w'.heap[k]? = w.heap[k]?) (hs : w'.heap.size = w.heap.size)
    (ho : w'.os = w.os) (ht : w'.tape = w.tape) (hout : w'.output = w.output) (hob : ObjRel G' w' i ob') : WRel E G' (h.set i ob') w' := by
  have hKb := (hw.own _ i hbl).2
  have hilt : i < h.length := (List.getElem?_eq_some_iff.1 hi).1
  refine ⟨hw.le.trans hle, fun a v ha => hcell a v (by rw [himm] at ha; exact ha), fun a v ha => hw.immNew a v (by rw [himm] at ha; exact ha), fun b hb => ?_, by rw [hs]; exact hw.size, ho.trans hw.os, ht.trans hw.tape, hout.trans hw.output,
    fun b j hb => by rw [hs]; rw [hown] at hb; exact hw.own b j hb, fun j hj => ?_, fun j o hj => ?_⟩
  · rw [hheap b (fun hh => hKb (hh ▸ hb))]; exact hw.keep b hb
  · simp only [List.length_set] at hj
    have := hw.fresh j hj
    exact ⟨by rw [hloc]; exact this.1, fun n => by rw [hrt j n (by omega)]; exact this.2 n⟩
  · rw [List.getElem?_set] at hj
    by_cases hij : i = j
    · subst hij
      simp only [if_true, hilt] at hj
      cases hj
      exact hob
    · rw [if_neg hij] at hj
      refine (hw.obj j o hj).keep hle (fun b hb => ⟨hheap b (fun hh => ?_), fun a ha => himm a⟩) (fun n hn => by rw [hrt j n (fun e => hij e.symm)]; exact hn) (fun hn => by rw [hloc]; exact hn)
      subst hh
      rw [hbl] at hb; cases hb; exact hij rfl

def rtSet (G : Gh) (i n : Nat) (x : Option Addr × Nat) : Gh := { G with rt := fun j m => if j = i ∧ m = n then some x else G.rt j m }
theorem rtSet_le {G : Gh} {i n : Nat} {x : Option Addr × Nat} (h : G.rt i n = none) : G.le (rtSet G i n x) := by
  refine ⟨fun _ _ h => h, fun _ _ h => h, fun j m y hy => ?_, fun _ _ h => h⟩
  show (if j = i ∧ m = n then _ else G.rt j m) = some y
  split
  · rename_i hc; rw [hc.1, hc.2, h] at hy; cases hy
  · exact hy
theorem rtSet_at (G : Gh) (i n : Nat) (x : Option Addr × Nat) : (rtSet G i n x).rt i n = some x := by show (if i = i ∧ n = n then _ else _) = _; simp
theorem rtSet_ne {G : Gh} {i n j m : Nat} {x : Option Addr × Nat} (h : ¬ (j = i ∧ m = n)) : (rtSet G i n x).rt j m = G.rt j m := by show (if j = i ∧ m = n then _ else _) = _; rw [if_neg h]

section
variable {P : Program} {E : Env} {T : Tr} {o : Oper} {ρ : Operand → AV} {h h' : List AObj} {v : AV}

theorem bufAddr_ok (hT : TOk P T) {t sz i n : Nat} {x ix : Operand} {k : IntKind} {j : Int} (ho : o.op = .indexAddr t x ix) (hs : sliceElem T t sz = true)
    (hx : ρ x = .bm i n) (hix : ρ ix = .d (.int k j)) (h0 : 0 ≤ j ∧ j < (n : Int)) : OpP P o ρ (.bp i n (j.toNat * sz)) := by
  intro G e w hi hr
  have hx' : RepA G (ρ x) (e x) := hr x (by simp [ho, Op.operands])
  have hix' : RepA G (ρ ix) (e ix) := hr ix (by simp [ho, Op.operands])
  rw [hx] at hx'; rw [hix] at hix'
  obtain ⟨et, ie, h1, h2, h3⟩ := sliceElem_ok hT hs
  obtain ⟨a, cap, hv, hl, hz⟩ := hx'.bm_inv2
  cases a with
  | none => have := hz rfl; omega
  | some p =>
    refine ⟨.pointer (some (p.add (j.toNat * sz))), ?_, .bp p cap _ hl⟩
    unfold execOp
    simp only [ho, Sem.run_bind]
    rw [hv, hix'.int_inv]
    simp [Instr.indexAt, asIntOf, run_underlying h1, h0.1, h0.2, h2.run_size, h3]

theorem bufLoad_ok (hT : TOk P T) {t i n off sz : Nat} {ti : TI} {x : Operand} {cells : List AV} (ho : o.op = .load t x) (hx : ρ x = .bp i n off) (hi : h[i]? = some (.buf sz n cells)) (hf : T.find t = some ti) (ha : ti.agg = false)
    (hv : cells[off]? = some v) : OpS P E o ρ h v h :=
  OpS_of_run fun G e w hw hr => by
    have hx' : RepA G (ρ x) (e x) := hr x (by simp [ho, Op.operands])
    rw [hx] at hx'
    obtain ⟨p, cap, hp, hl⟩ := hx'.bp_inv
    obtain ⟨a', cap', hl', _, hb1, hb2, hb3, hb4⟩ := hw.obj i _ hi
    rw [hl] at hl'; cases hl'
    have hlt := (List.getElem?_eq_some_iff.1 hv).1
    have hcap : 0 < cap := by
      rcases Nat.eq_zero_or_pos cap with h0 | h0
      · have : n = 0 := by omega
        subst this; simp at hb1; rw [hb1] at hlt; simp at hlt
      · exact h0
    obtain ⟨q1, q2, q3, q4⟩ := hb4 p rfl hcap
    obtain ⟨u, u1, u2, u3⟩ := q3 off v hv
    have hti := hT.at hf
    refine ⟨u, w, G, ?_, .refl G, hw, u3⟩
    unfold execOp
    simp [ho, Instr.loadAt, hp, Instr.sureAddr, loadVar, hti.run_agg, ha, u1]

theorem bufStore_ok (hT : TOk P T) {t i n off sz : Nat} {ti : TI} {x y : Operand} {cells : List AV} (ho : o.op = .store t x y) (hx : ρ x = .bp i n off) (hi : h[i]? = some (.buf sz n cells)) (hf : T.find t = some ti) (hsz : Nat.beq ti.size 1 = true)
    (hs : scalarA (ρ y) = true) (hlt : off < cells.length) : OpS P E o ρ h .any (h.set i (.buf sz n (cells.set off (ρ y)))) :=
  OpS_of_skip fun G e w hw hr => by
    have hx' : RepA G (ρ x) (e x) := hr x (by simp [ho, Op.operands])
    have hy' : RepA G (ρ y) (e y) := hr y (by simp [ho, Op.operands])
    rw [hx] at hx'
    obtain ⟨p, cap, hp, hl⟩ := hx'.bp_inv
    obtain ⟨a', cap', hl', hlater, hb1, hb2, hb3, hb4⟩ := hw.obj i _ hi
    rw [hl] at hl'; cases hl'
    have hcap : 0 < cap := by
      rcases Nat.eq_zero_or_pos cap with h0 | h0
      · have : n = 0 := by omega
        subst this; simp at hb1; rw [hb1] at hlt; simp at hlt
      · exact h0
    obtain ⟨q1, q2, q3, q4⟩ := hb4 p rfl hcap
    have hcs : n * sz ≤ cap * sz := Nat.mul_le_mul_right _ hb2
    have hone := scalar_one hy' hs
    have hti := hT.at hf
    have h1 := Nat.eq_of_beq_eq_true hsz
    have hspot : (p.add off).spot = none := add_spot p q1 _
    obtain ⟨w', r1, r2, r3, r4, r5, r6, r7, r8, r9⟩ := store_spare (P := P) hspot [e y] 0 w (fun k u hk => by
        cases k with
        | zero => simp at hk; subst hk; exact hone
        | succ k => simp at hk) (fun k hk => by
        simp at hk; subst hk
        obtain ⟨c1, c2, _⟩ := q4 off (by omega)
        rw [Nat.zero_add, show (p.add off).add 0 = p.add off by simp [Addr.add]]
        exact ⟨c1, c2⟩)
    have hadd0 : (p.add off).add 0 = p.add off := by simp [Addr.add]
    have hother : ∀ j, j ≠ off → w'.cell? (p.add j) = w.cell? (p.add j) := fun j hj => r3 _ (fun k hk hh => by
      simp at hk; subst hk
      rw [Nat.zero_add, hadd0, add_off p q1, add_off p q1] at hh
      injection hh with _ h5 _
      omega)
    refine ⟨w', G, ?_, .refl G, hw.bufAt (bl := p.block) hi (.refl G) (fun _ => rfl) (fun _ => rfl) (fun _ => rfl) (fun _ _ _ => rfl) q2 (fun a u hu => ?_) (fun k hk => r5 k (by rw [add_block]; exact hk)) r6 r7 r8 r9 ?_⟩
    · unfold execOp
      have hsz' : (e y).cells.size = ti.size := by rw [one_cells hone, h1]; rfl
      simp [ho, Instr.storeAt, hp, Instr.sureAddr, storeVar, hti.run_size, h1, one_cells hone, r1]
    · rw [r3 a (fun k hk hh => ?_)]
      · exact hw.imm a u hu
      · simp at hk; subst hk
        rw [Nat.zero_add, hadd0] at hh
        have := (q4 off (by omega)).2.2
        rw [← hh, hu] at this; cases this
    · refine ⟨some p, cap, hl, hlater, by simpa using hb1, hb2, hb3, fun p' hp' _ => ?_⟩
      cases hp'
      refine ⟨q1, q2, fun j c hj => ?_, fun j hj => ?_⟩
      · rw [List.getElem?_set] at hj
        by_cases hjo : off = j
        · subst hjo
          simp only [if_true, hlt] at hj
          cases hj
          refine ⟨e y, ?_, hone, hy'⟩
          have := r2 0 (e y) (by simp)
          rwa [Nat.zero_add, hadd0] at this
        · rw [if_neg hjo] at hj
          obtain ⟨u, u1, u2, u3⟩ := q3 j c hj
          exact ⟨u, by rw [hother j (fun e => hjo e.symm)]; exact u1, u2, u3⟩
      · obtain ⟨⟨u, c1⟩, c2, c3⟩ := q4 j hj
        refine ⟨?_, by rw [r4]; exact c2, c3⟩
        by_cases hjo : j = off
        · subst hjo
          refine ⟨e y, ?_⟩
          have := r2 0 (e y) (by simp)
          rwa [Nat.zero_add, hadd0] at this
        · exact ⟨u, by rw [hother j hjo]; exact c1⟩

/-- Elements as cells. -/
def flatAV (es : List (List Dat)) : List AV := es.flatten.map .d
theorem flatAV_length {sz : Nat} : ∀ {es : List (List Dat)}, (∀ e, e ∈ es → e.length = sz) → (flatAV es).length = es.length * sz
  | [], _ => by simp [flatAV]
  | a :: l, h => by
    have := flatAV_length (es := l) (fun e he => h e (by simp [he]))
    simp only [flatAV, List.length_map] at this ⊢
    rw [List.flatten_cons, List.length_append, this, h a (by simp), List.length_cons, Nat.succ_mul]; omega
theorem flatten_at {sz : Nat} : ∀ {es : List (List Dat)} {k : Nat} {d : Dat}, (∀ e, e ∈ es → e.length = sz) → es.flatten[k]? = some d → ∃ (i j : Nat) (e : List Dat), es[i]? = some e ∧ e[j]? = some d ∧ k = i * sz + j
  | [], k, d, _, h => by simp at h
  | a :: l, k, d, hl, h => by
    rw [List.flatten_cons] at h
    have ha := hl a (by simp)
    by_cases hk : k < a.length
    · rw [List.getElem?_append_left hk] at h
      exact ⟨0, k, a, by simp, h, by simp⟩
    · rw [List.getElem?_append_right (by omega)] at h
      obtain ⟨i, j, e, h1, h2, h3⟩ := flatten_at (fun e he => hl e (by simp [he])) h
      exact ⟨i + 1, j, e, by simpa using h1, h2, by rw [Nat.succ_mul]; omega⟩

theorem bufApp_ok (hT : TOk P T) {t t2 sz by_ i n : Nat} {s x : Operand} {cells : List AV} {es2 : List (List Dat)} (ho : o.op = .call { callee := .builtin .append, args := #[s, x], argTypes := #[t, t2] })
    (ht : appT T t = some (sz, by_)) (ht2 : srcT T t2 = true) (hs : ρ s = .bm i n) (hi : h[i]? = some (.buf sz n cells)) (hx : asNew sz (ρ x) = some es2)
    (hb : (n + es2.length) * (by_ + 1) ≤ 140737488355328) :
    OpS P E o ρ h (.bm i (n + es2.length)) (h.set i (.buf sz (n + es2.length) (cells ++ flatAV es2))) :=
  OpS_of_run fun G e w hw hr => by
    have hs' : RepA G (ρ s) (e s) := hr s (by simp [ho, Op.operands, Call.operands])
    have hx' : RepA G (ρ x) (e x) := hr x (by simp [ho, Op.operands, Call.operands])
    rw [hs] at hs'
    obtain ⟨et, ie, h1, h2, rfl, rfl, hzl⟩ := appT_ok hT ht
    obtain ⟨d2, h3, h4⟩ := srcT_ok hT ht2
    obtain ⟨hlen2, news, n1, n2, n3, n4⟩ := asNew_src (P := P) hw.imm hx' hx
    obtain ⟨a, cap, hsv, hrt⟩ := hs'.bm_inv
    obtain ⟨a', cap', hrt', hlater, hb1, hcap, hb3, hb4⟩ := hw.obj i _ hi
    rw [hrt] at hrt'; cases hrt'
    have hfl := flatAV_length hlen2
    have hex : (execOp e o).run P w = ((Builtin.append_ #[t, t2] o.type #[e s, e x]).run P w).andThen fun u w' => .ok (.value u) w' := by
      unfold execOp
      simp [ho, resolve, invoke, builtin]
    have hilt : i < h.length := (List.getElem?_eq_some_iff.1 hi).1
    have hnewc : ∀ (G' : Gh), G.le G' → ∀ (j : Nat) (c : AV), (flatAV es2)[j]? = some c → ∃ u, news[j]? = some u ∧ oneC u = true ∧ RepA G' c u := by
      intro G' hle j c hj
      simp only [flatAV, List.getElem?_map, Option.map_eq_some_iff] at hj
      obtain ⟨d, hd, rfl⟩ := hj
      obtain ⟨i', j', el, e1, e2, rfl⟩ := flatten_at hlen2 hd
      obtain ⟨u, hu, hru⟩ := n4 i' el j' d e1 e2
      exact ⟨u, hu, n3 _ u hu, .d (hru.mono hle.imm)⟩
    by_cases hz : es2 = []
    · subst hz
      have hn : news = [] := by simpa using n2
      subst hn
      have hrun := run_append_in (ty := o.type) h1 h3 h4 h2 (w' := w) (a := a) (n := n) (cap := cap) n1 (by simpa using hcap) (by cases a <;> simp [storeCells])
      have hset : h.set i (.buf ie.size (n + ([] : List (List Dat)).length) (cells ++ flatAV [])) = h := by
        apply List.ext_getElem?
        intro j
        rw [List.getElem?_set]
        split
        · rename_i e; subst e
          rw [hi]; simp [flatAV, hilt]
        · rfl
      refine ⟨e s, w, G, ?_, .refl G, by rw [hset]; exact hw, by rw [hsv]; exact .bm a cap hrt (by obtain ⟨a2, c2, e2, _, hz2⟩ := hs'.bm_inv2; rw [hsv] at e2; cases e2; exact hz2)⟩
      rw [hex, hsv, hrun]; simp
    · have hpos : 0 < es2.length := List.length_pos_iff.2 hz
      have hrtn : G.rt i (n + es2.length) = none := hlater _ (by omega)
      by_cases hfit : n + es2.length ≤ cap
      · cases a with
        | none => have := hb3.1 rfl; omega
        | some p =>
          obtain ⟨p1, p2, p3, p4⟩ := hb4 p rfl (by omega)
          have hm1 : (n + es2.length) * ie.size ≤ cap * ie.size := Nat.mul_le_mul_right _ hfit
          rw [Nat.add_mul] at hm1
          have hspot : (p.add (n * ie.size)).spot = none := add_spot p p1 _
          obtain ⟨w', q1, q2, q3, q4, q5, q6, q7, q8, q9⟩ := store_spare (P := P) hspot news 0 w n3 (fun k hk => by
            rw [Nat.zero_add, add_add p p1]
            obtain ⟨c1, c2, _⟩ := p4 (n * ie.size + k) (by omega)
            exact ⟨c1, c2⟩)
          have hrun := run_append_in (ty := o.type) h1 h3 h4 h2 (w' := w') (a := some p) (n := n) (cap := cap) n1 hfit (by simpa using q1)
          have hold : ∀ j, ¬ (n * ie.size ≤ j ∧ j < n * ie.size + news.length) → w'.cell? (p.add j) = w.cell? (p.add j) := fun j hj => q3 _ (fun k hk hh => by
            rw [Nat.zero_add, add_add p p1, add_off p p1, add_off p p1] at hh
            injection hh with _ h5 _
            omega)
          have hnw : ∀ (k : Nat) (u : Value), news[k]? = some u → w'.cell? (p.add (n * ie.size + k)) = some u := fun k u hu => by
            have := q2 k u hu
            rwa [Nat.zero_add, add_add p p1] at this
          have hle := rtSet_le (x := (some p, cap)) hrtn
          refine ⟨.slice (some p) (n + es2.length) cap, w', rtSet G i (n + es2.length) (some p, cap), by rw [hex, hsv, hrun]; rfl, hle, ?_, .bm _ _ (rtSet_at _ _ _ _) (fun h => by cases h)⟩
          refine hw.bufAt (bl := p.block) hi hle (fun _ => rfl) (fun _ => rfl) (fun _ => rfl) (fun j m hj => rtSet_ne (fun hc => hj hc.1)) p2 (fun a u hu => ?_) (fun k hk => q5 k (by rw [add_block]; exact hk)) q6 q7 q8 q9 ?_
          · rw [q3 a (fun k hk hh => ?_)]
            · exact hw.imm a u hu
            · rw [Nat.zero_add, add_add p p1] at hh
              have := (p4 (n * ie.size + k) (by omega)).2.2
              rw [← hh, hu] at this; cases this
          · refine ⟨some p, cap, rtSet_at _ _ _ _, fun n' hn' => by rw [rtSet_ne (by omega)]; exact hlater n' (by omega), by rw [List.length_append, hb1, hfl, Nat.add_mul], hfit, hb3, fun p' hp' _ => ?_⟩
            cases hp'
            refine ⟨p1, p2, fun j c hj => ?_, fun j hj => ?_⟩
            · by_cases hjl : j < cells.length
              · rw [List.getElem?_append_left hjl] at hj
                obtain ⟨u, u1, u2, u3⟩ := p3 j c hj
                exact ⟨u, by rw [hold j (by omega)]; exact u1, u2, u3.mono hle⟩
              · rw [List.getElem?_append_right (by omega)] at hj
                obtain ⟨u, u1, u2, u3⟩ := hnewc _ hle _ c hj
                refine ⟨u, ?_, u2, u3⟩
                have := hnw _ u u1
                rwa [show n * ie.size + (j - cells.length) = j by omega] at this
            · obtain ⟨⟨u, c1⟩, c2, c3⟩ := p4 j hj
              refine ⟨?_, by rw [q4]; exact c2, c3⟩
              by_cases hjn : n * ie.size ≤ j ∧ j < n * ie.size + news.length
              · have hk : j - n * ie.size < news.length := by omega
                have := hnw (j - n * ie.size) news[j - n * ie.size] (by simp [hk])
                exact ⟨_, by rwa [show n * ie.size + (j - n * ie.size) = j by omega] at this⟩
              · exact ⟨u, by rw [hold j hjn]; exact c1⟩
      · -- a new row
        have hsrc : ∃ olds : List Value, Src P w (e s) n ie.size olds ∧ olds.length = n * ie.size ∧ ∀ (j : Nat) (c : AV), cells[j]? = some c → ∃ u, olds[j]? = some u ∧ oneC u = true ∧ RepA G c u := by
          by_cases hc0 : 0 < cap
          · cases a with
            | none => have := hb3.1 rfl; omega
            | some p =>
              obtain ⟨p1, p2, p3, p4⟩ := hb4 p rfl hc0
              let f : Nat → Value := fun j => (w.cell? (p.add j)).getD undef
              have hm : n * ie.size ≤ cap * ie.size := Nat.mul_le_mul_right _ hcap
              refine ⟨(List.range (n * ie.size)).map f, fun w'' hh => ?_, by simp, fun j c hj => ?_⟩
              · have hld : (loadCells p (n * ie.size)).run P w'' = .ok ((List.range (n * ie.size)).map f).toArray w'' := by
                  refine run_loadCells (P := P) w'' p (n * ie.size) f (fun j hj => ?_)
                  obtain ⟨⟨u, c1⟩, _⟩ := p4 j (by omega)
                  rw [cell?_heap hh]; simp [f, c1]
                rw [hsv]
                refine ⟨rfl, ?_⟩
                simp [Builtin.firstCells, hld]
              · have hjl : j < n * ie.size := by rw [← hb1]; exact (List.getElem?_eq_some_iff.1 hj).1
                obtain ⟨u, u1, u2, u3⟩ := p3 j c hj
                exact ⟨u, by simp [hjl, f, u1], u2, u3⟩
          · have hn0 : n = 0 := by omega
            subst hn0
            refine ⟨[], fun w'' hh => ?_, by simp, fun j c hj => ?_⟩
            · rw [hsv]
              refine ⟨rfl, ?_⟩
              cases a with
              | none => simp [Builtin.firstCells]
              | some p =>
                have := run_loadCells (P := P) w'' p 0 (fun _ => undef) (fun j hj => by omega)
                simp only [Builtin.firstCells, Nat.zero_mul]
                simpa using this
            · have := (List.getElem?_eq_some_iff.1 hj).1
              rw [hb1] at this; simp at this
        obtain ⟨olds, o1, o2, o3⟩ := hsrc
        obtain ⟨newCap, rest, w', c1, c2, c3, c4, c5, c6, c7⟩ := run_append_out (ty := o.type) h1 h3 h4 h2 hsv o1 n1 (by omega) hb
        let cs := olds.toArray ++ news.toArray ++ rest
        have hown : G.own w.heap.size = none := by
          cases ho : G.own w.heap.size with
          | none => rfl
          | some j => have := (hw.own _ _ ho).1; omega
        have hK : ¬ E.K w.heap.size := fun hk => by have := hw.size; have := hk.1; omega
        let G' : Gh := { rtSet G i (n + es2.length) (some ⟨w.heap.size, 0, none⟩, newCap) with own := fun b => if b = w.heap.size then some i else G.own b }
        have hle : G.le G' := by
          refine ⟨fun _ _ x => x, fun _ _ x => x, (rtSet_le hrtn).rt, fun b j hb' => ?_⟩
          show (if b = w.heap.size then some i else G.own b) = some j
          split
          · rename_i hc; subst hc; rw [hown] at hb'; cases hb'
          · exact hb'
        have hsum : (n + es2.length) * ie.size + (newCap - (n + es2.length)) * ie.size = newCap * ie.size := by
          rw [← Nat.add_mul]; congr 1; omega
        have hcs : cs.size = newCap * ie.size := by
          have : cs.size = olds.length + news.length + rest.size := by simp [cs]; omega
          rw [this, c4, hzl, o2, n2, ← Nat.add_mul, hsum]
        have hcell : w'.heap[w.heap.size]? = some (.cells cs et) := by rw [c3]; exact Array.getElem?_push_size
        have hcj : ∀ j, w'.cell? ((⟨w.heap.size, 0, none⟩ : Addr).add j) = cs[j]? := fun j => by
          rw [add_mk, Nat.zero_add]; simp [World.cell?, hcell]
        refine ⟨_, w', G', by rw [hex, c2]; rfl, hle, ?_, .bm _ _ (rtSet_at _ _ _ _) (fun h => by cases h)⟩
        refine ⟨hw.le.trans hle, fun a u hu => ?_, hw.immNew, fun b hb' => ?_, by rw [c3]; simp; have := hw.size; omega, c5.trans hw.os, c6.trans hw.tape, c7.trans hw.output, fun b j hb' => ?_, fun j hj => ?_, fun j ob hj => ?_⟩
        · have hcc := hw.imm a u hu
          rw [World.cell?_of_block (w := w) (by rw [c3]; exact heap_push_old _ _ _ (World.block_lt_of_cell? _ _ hcc))]
          exact hcc
        · rw [c3, heap_push_old _ _ _ (Nat.lt_of_lt_of_le hb'.1 hw.size)]; exact hw.keep b hb'
        · have hb2 : (if b = w.heap.size then some i else G.own b) = some j := hb'
          split at hb2
          · rename_i hc; subst hc; exact ⟨by rw [c3]; simp, hK⟩
          · have := hw.own b j hb2; exact ⟨by rw [c3]; simp; omega, this.2⟩
        · simp only [List.length_set] at hj
          have := hw.fresh j hj
          exact ⟨this.1, fun m => by show (rtSet G i _ _).rt j m = none; rw [rtSet_ne (by omega)]; exact this.2 m⟩
        · rw [List.getElem?_set] at hj
          by_cases hij : i = j
          · subst hij
            simp only [if_true, hilt] at hj
            cases hj
            refine ⟨some ⟨w.heap.size, 0, none⟩, newCap, rtSet_at _ _ _ _, fun n' hn' => by show (rtSet G i _ _).rt i n' = none; rw [rtSet_ne (by omega)]; exact hlater n' (by omega), by rw [List.length_append, hb1, hfl, Nat.add_mul], c1, ⟨fun h => (by cases h), fun p' hp' => (by cases hp'; rfl)⟩, fun p' hp' _ => ?_⟩
            cases hp'
            refine ⟨rfl, by show (if w.heap.size = w.heap.size then _ else _) = _; simp, fun k c hk => ?_, fun k hk => ⟨?_, ?_, ?_⟩⟩
            · rw [hcj]
              by_cases hkl : k < cells.length
              · rw [List.getElem?_append_left hkl] at hk
                obtain ⟨u, u1, u2, u3⟩ := o3 k c hk
                refine ⟨u, ?_, u2, u3.mono hle⟩
                have hko : k < olds.length := (List.getElem?_eq_some_iff.1 u1).1
                simp only [cs]
                rw [Array.getElem?_append_left (by simp; omega), Array.getElem?_append_left (by simpa using hko)]
                simpa using u1
              · rw [List.getElem?_append_right (by omega)] at hk
                obtain ⟨u, u1, u2, u3⟩ := hnewc _ hle _ c hk
                refine ⟨u, ?_, u2, u3⟩
                have hkn := (List.getElem?_eq_some_iff.1 u1).1
                simp only [cs]
                rw [Array.getElem?_append_left (by simp; omega), Array.getElem?_append_right (by simp; omega)]
                simp only [List.size_toArray, List.getElem?_toArray]
                rw [o2, ← hb1]; exact u1
            · rw [hcj]; exact ⟨cs[k]'(by rw [hcs]; exact hk), by simp [hcs, hk]⟩
            · rw [add_mk]; simp [World.frozen?, c3]
            · cases hg : G.imm ((⟨w.heap.size, 0, none⟩ : Addr).add k) with
              | none => exact hg
              | some u => have := World.block_lt_of_cell? _ _ (hw.imm _ u hg); rw [add_block] at this; simp at this
          · rw [if_neg hij] at hj
            refine (hw.obj j ob hj).keep hle (fun b hb' => ⟨by rw [c3]; exact heap_push_old _ _ _ (hw.own b j hb').1, fun a ha => rfl⟩) (fun m hm => by show (rtSet G i _ _).rt j m = none; rw [rtSet_ne (fun hc => hij hc.1.symm)]; exact hm) (fun hn => hn)

/-- A buffer of bytes as text. -/
theorem bufStr_ok (hT : TOk P T) {t t2 i n : Nat} {x : Operand} {cells : List AV} {s : List UInt8} (ho : o.op = .convert t t2 x) (hb : (isByteSlice T t && isStrT T t2) = true) (hx : ρ x = .bm i n) (hi : h[i]? = some (.buf 1 n cells))
    (hs : s.length = n) (hc : ∀ (j : Nat) (c : UInt8), s[j]? = some c → cells[j]? = some (.d (.int .u8 (c.toNat : Int)))) : OpS P E o ρ h (.d (.str s)) h :=
  OpS_of_run fun G e w hw hr => by
    have hx' : RepA G (ρ x) (e x) := hr x (by simp [ho, Op.operands])
    rw [hx] at hx'
    obtain ⟨a, cap, hv, hl⟩ := hx'.bm_inv
    obtain ⟨a', cap', hl', hlater, hb1, hb2, hb3, hb4⟩ := hw.obj i _ hi
    rw [hl] at hl'; cases hl'
    simp only [Bool.and_eq_true] at hb
    obtain ⟨et, h1, h2⟩ := isByteSlice_ok hT hb.1
    have h3 := und_of_str hT hb.2
    refine ⟨.string ⟨s.toArray⟩, w, G, ?_, .refl G, hw, .d (.str _)⟩
    unfold execOp
    simp only [ho, Sem.run_bind]
    rw [hv]
    cases a with
    | none =>
      have hc0 := hb3.1 rfl
      have hs0 : s = [] := List.length_eq_zero_iff.1 (by omega)
      have hn0 : n = 0 := by omega
      subst hs0; subst hn0; subst hc0
      simp [Go.convert, run_underlying h1, run_underlying h2, run_underlying h3, Conv.bytesToString]
      rfl
    | some p =>
      let ns : List Int := s.map fun c => (c.toNat : Int)
      have hnl : ns.length = n := by simp [ns, hs]
      have hld : (loadCells p n).run P w = .ok (ns.map (Value.int .u8)).toArray w := by
        have := run_loadCells (P := P) w p n (fun j => Value.int .u8 (ns.getD j 0)) (fun j hj => by
          obtain ⟨q1, q2, q3, q4⟩ := hb4 p rfl (by omega)
          have hsj : s[j]? = some s[j] := by simp [hs, hj]
          obtain ⟨u, u1, u2, u3⟩ := q3 _ _ (hc j _ hsj)
          rw [u3.int_inv] at u1
          rw [u1]
          simp [List.getD, ns, hs, hj])
        rw [this]
        congr 2
        apply List.ext_getElem?
        intro j
        by_cases hj : j < n
        · have hj' : j < ns.length := by omega
          simp [hj, hj', List.getD]
        · have hj' : ¬ j < ns.length := by omega
          simp [hj, hj', List.getElem?_eq_none (Nat.le_of_not_lt hj')]
      have hmap : (ns.map fun n => UInt8.ofNat n.toNat) = s := by simp [ns, Function.comp_def]
      simp [Go.convert, run_underlying h1, run_underlying h2, run_underlying h3, run_bytesToString w _ n cap ns hld, foldl_push, hmap]

/-- A new buffer of zero elements, in a room. -/
theorem makeBuf_ok (hT : TOk P T) {t sz by_ i0 : Nat} {z : List AV} {x y : Operand} {k k' : IntKind} {n : Nat} (ho : o.op = .makeSlice t x y) (he : elemT T t = some (sz, by_, z)) (hx : ρ x = .d (.int k (n : Int))) (hy : ρ y = .d (.int k' (n : Int)))
    (hb : by_ * n ≤ 281474976710656) (h63 : n ≤ 9223372036854775807) (hroom : h[i0]? = some .room) :
    OpS P E o ρ h (.bm i0 n) (h.set i0 (.buf sz n (List.replicate n z).flatten)) :=
  OpS_of_run fun G e w hw hr => by
    have hx' : RepA G (ρ x) (e x) := hr x (by simp [ho, Op.operands])
    have hy' : RepA G (ρ y) (e y) := hr y (by simp [ho, Op.operands])
    rw [hx] at hx'; rw [hy] at hy'
    obtain ⟨et, ie, h1, h2, h3, h4, h5, h6⟩ := elemT_ok hT he
    obtain ⟨info, g1, g2, g3, zv, g4, g5⟩ := h2.info
    obtain ⟨hl, hc⟩ := zrepL_ok g5
    have hzs : zv.cells.size = sz := by
      have : zv.cells.toList.length = ie.zero.length := hl.symm ▸ rfl
      simp only [Array.length_toList] at this
      rw [this, h5, h6]
    have hbb : (info.bytes : Int) * (n : Int) ≤ 281474976710656 := by
      have : info.bytes * n ≤ 281474976710656 := by rw [g3, h4]; exact hb
      have h9 : ((info.bytes * n : Nat) : Int) ≤ 281474976710656 := by omega
      rwa [Int.natCast_mul] at h9
    have hrun := run_make (P := P) w t et info zv h1 g1 g4 k k' (n : Int) (n : Int) (by omega) (Int.le_refl _) hbb (by omega)
    simp only [Int.toNat_natCast] at hrun
    have hinfo : info.size = sz := by rw [g2, h3]
    have hrm := hw.obj i0 _ hroom
    have hi0 : i0 < h.length := (List.getElem?_eq_some_iff.1 hroom).1
    have hown : G.own w.heap.size = none := by
      cases ho : G.own w.heap.size with
      | none => rfl
      | some j => have := (hw.own _ _ ho).1; omega
    have hK : ¬ E.K w.heap.size := fun hk => by have := hw.size; have := hk.1; omega
    let cs := madeCells zv.cells (n * info.size)
    have hcs : cs.size = n * sz := by simp [cs, size_madeCells, hinfo]
    let w' : World := { w with heap := w.heap.push (.cells cs et) }
    let G' : Gh := { rtSet G i0 n (some ⟨w.heap.size, 0, none⟩, n) with own := fun b => if b = w.heap.size then some i0 else G.own b }
    have hle : G.le G' := by
      refine ⟨fun _ _ x => x, fun _ _ x => x, (rtSet_le (hrm.2 n)).rt, fun b j hb' => ?_⟩
      show (if b = w.heap.size then some i0 else G.own b) = some j
      split
      · rename_i hc; subst hc; rw [hown] at hb'; cases hb'
      · exact hb'
    have hcj : ∀ j, w'.cell? ((⟨w.heap.size, 0, none⟩ : Addr).add j) = cs[j]? := fun j => by
      rw [add_mk, Nat.zero_add]; simp [World.cell?, w']
    refine ⟨.slice (some ⟨w.heap.size, 0, none⟩) n n, w', G', ?_, hle, ?_, .bm _ _ (rtSet_at _ _ _ _) (fun h => by cases h)⟩
    · unfold execOp
      simp only [ho, hx'.int_inv, hy'.int_inv, Sem.run_bind, hrun, Result.andThen_ok]
      rfl
    refine ⟨hw.le.trans hle, fun a u hu => ?_, hw.immNew, fun b hb' => ?_, by show E.w0.heap.size ≤ (w.heap.push _).size; simp; have := hw.size; omega, hw.os, hw.tape, hw.output, fun b j hb' => ?_, fun j hj => ?_, fun j ob hj => ?_⟩
    · have hcc := hw.imm a u hu
      rw [World.cell?_of_block (w := w) (by exact heap_push_old _ _ _ (World.block_lt_of_cell? _ _ hcc))]
      exact hcc
    · show (w.heap.push _)[b]? = _
      rw [heap_push_old _ _ _ (Nat.lt_of_lt_of_le hb'.1 hw.size)]; exact hw.keep b hb'
    · have hb2 : (if b = w.heap.size then some i0 else G.own b) = some j := hb'
      split at hb2
      · rename_i hc; subst hc; exact ⟨by show _ < (w.heap.push _).size; simp, hK⟩
      · have := hw.own b j hb2; exact ⟨by show _ < (w.heap.push _).size; simp; omega, this.2⟩
    · simp only [List.length_set] at hj
      have := hw.fresh j hj
      exact ⟨this.1, fun m => by show (rtSet G i0 _ _).rt j m = none; rw [rtSet_ne (by omega)]; exact this.2 m⟩
    · rw [List.getElem?_set] at hj
      by_cases hij : i0 = j
      · subst hij
        simp only [if_true, hi0] at hj
        cases hj
        refine ⟨some ⟨w.heap.size, 0, none⟩, n, rtSet_at _ _ _ _, fun n' hn' => by show (rtSet G i0 _ _).rt i0 n' = none; rw [rtSet_ne (by omega)]; exact hrm.2 n', by rw [List.length_flatten, List.map_replicate, List.sum_replicate_nat, h6], Nat.le_refl _, ⟨fun h => (by cases h), fun p' hp' => (by cases hp'; rfl)⟩, fun p' hp' _ => ?_⟩
        cases hp'
        refine ⟨rfl, by show (if w.heap.size = w.heap.size then _ else _) = _; simp, fun k c hk => ?_, fun k hk => ⟨?_, ?_, ?_⟩⟩
        · rw [flat_repl, h6] at hk
          split at hk
          · rename_i hkl
            rw [hcj]
            have hkc : cs[k]? = some (cs[k]'(by rw [hcs]; exact hkl)) := by simp [hcs, hkl]
            have hlt : k % sz < zv.cells.size := by
              rw [hzs]
              exact Nat.mod_lt _ (by rcases Nat.eq_zero_or_pos sz with h0 | h0; (subst h0; simp at hkl); exact h0)
            have hval : cs[k]'(by rw [hcs]; exact hkl) = zv.cells[k % sz] := by
              simp only [cs, madeCells, Array.getElem_map, Array.getElem_range, hzs]
              rw [getElem!_pos zv.cells (k % sz) hlt]
            obtain ⟨c1, c2⟩ := hc G (k % sz) c zv.cells[k % sz] (by rw [h5]; exact hk) (by simp [hlt])
            exact ⟨_, hkc, by rw [hval]; exact c2, by rw [hval]; exact c1.mono hle⟩
          · cases hk
        · rw [hcj]; exact ⟨cs[k]'(by rw [hcs]; exact hk), by simp [hcs, hk]⟩
        · rw [add_mk]; simp [World.frozen?, w']
        · cases hg : G.imm ((⟨w.heap.size, 0, none⟩ : Addr).add k) with
          | none => exact hg
          | some u => have := World.block_lt_of_cell? _ _ (hw.imm _ u hg); rw [add_block] at this; simp at this
      · rw [if_neg hij] at hj
        refine (hw.obj j ob hj).keep hle (fun b hb' => ⟨by show (w.heap.push _)[b]? = _; exact heap_push_old _ _ _ (hw.own b j hb').1, fun a ha => rfl⟩) (fun m hm => by show (rtSet G i0 _ _).rt j m = none; rw [rtSet_ne (fun hc => hij hc.1.symm)]; exact hm) (fun hn => hn)

end

/-! ### tellings -/
theorem Rel_bufOf {E : Env} {N : Nat} {l : List (Nat × AV)} {h : List AObj} {t sz i : Nat} (ht : look l t = .sl sz [] .full ∨ look l t = .nils) (hi : h[i]? = some .room) :
    ∀ a w, Rel E N (look l) h a w → Rel E N (look ((t, .bm i 0) :: l)) (h.set i (.buf sz 0 [])) a w := by
  intro a w ⟨h1, h2, G, hw, hr⟩
  have hx := hr t
  obtain ⟨p, hv, hsp⟩ : ∃ p : Option Addr, a.tmps.getD t undef = .slice p 0 0 ∧ ∀ q, p = some q → q.spot = none := by
    rcases ht with ht | ht
    · rw [ht] at hx
      generalize a.tmps.getD t undef = u at hx
      cases hx with
      | sl r k =>
        obtain ⟨p, rfl⟩ := k
        obtain ⟨a', cap', h5, h6, h7⟩ := r.slice_inv
        cases h5
        exact ⟨p, rfl, fun q hq => (h7 q hq).1⟩
    · rw [ht] at hx
      generalize a.tmps.getD t undef = u at hx
      cases hx; exact ⟨none, rfl, fun q hq => by cases hq⟩
  have hrm := hw.obj i _ hi
  have hilt : i < h.length := (List.getElem?_eq_some_iff.1 hi).1
  have hle := rtSet_le (G := G) (i := i) (n := 0) (x := (p, 0)) (hrm.2 0)
  refine ⟨h1, h2, rtSet G i 0 (p, 0), ⟨hw.le.trans hle, hw.imm, hw.immNew, hw.keep, hw.size, hw.os, hw.tape, hw.output, hw.own, fun j hj => ?_, fun j o hj => ?_⟩, fun s => ?_⟩
  · simp only [List.length_set] at hj
    have := hw.fresh j hj
    exact ⟨this.1, fun n => by rw [rtSet_ne (by omega)]; exact this.2 n⟩
  · rw [List.getElem?_set] at hj
    by_cases hij : i = j
    · subst hij
      simp only [if_true, hilt] at hj
      cases hj
      exact ⟨p, 0, rtSet_at _ _ _ _, fun n' hn' => by rw [rtSet_ne (by omega)]; exact hrm.2 n', by simp, Nat.le_refl _, ⟨fun _ => rfl, hsp⟩, fun _ _ hc => by omega⟩
    · rw [if_neg hij] at hj
      exact (hw.obj j o hj).keep hle (fun b hb => ⟨rfl, fun _ _ => rfl⟩) (fun n hn => by rw [rtSet_ne (fun hc => hij hc.1.symm)]; exact hn) (fun hn => hn)
  · show RepA _ (bif Nat.beq s t then _ else look l s) _
    cases hb : Nat.beq s t with
    | false => exact (hr s).mono hle
    | true =>
      obtain rfl := Nat.eq_of_beq_eq_true hb
      rw [hv]
      exact .bm _ _ (rtSet_at _ _ _ _) (fun _ => rfl)

/-- A buffer handed on as data that does not turn; one may still append to it. -/
theorem Rel_freezeBuf {E : Env} {N : Nat} {l : List (Nat × AV)} {h : List AObj} {t i n sz : Nat} {cells : List AV} {es : List (List Dat)} (ht : look l t = .bm i n) (hi : h[i]? = some (.buf sz n cells)) (hn : es.length = n) (hd : RowDat cells 0 sz es) :
    ∀ a w, Rel E N (look l) h a w → Rel E N (look ((t, .sl sz es (.right i)) :: l)) (h.set i (.right sz n)) a w := by
  intro a w ⟨h1, h2, G, hw, hr⟩
  have hx := hr t
  rw [ht] at hx
  obtain ⟨p, cap, hv, hl⟩ := hx.bm_inv
  obtain ⟨p', cap', hl', hlater, hb1, hb2, hb3, hb4⟩ := hw.obj i _ hi
  rw [hl] at hl'; cases hl'
  have hilt : i < h.length := (List.getElem?_eq_some_iff.1 hi).1
  cases p with
  | none =>
    have hc0 := hb3.1 rfl
    have hn0 : n = 0 := by omega
    have hes : es = [] := List.length_eq_zero_iff.1 (by omega)
    subst hn0; subst hes; subst hc0
    refine ⟨h1, h2, G, ⟨hw.le, hw.imm, hw.immNew, hw.keep, hw.size, hw.os, hw.tape, hw.output, hw.own, fun j hj => hw.fresh j (by simpa using hj), fun j o hj => ?_⟩, fun s => ?_⟩
    · rw [List.getElem?_set] at hj
      by_cases hij : i = j
      · subst hij
        simp only [if_true, hilt] at hj
        cases hj
        exact ⟨none, 0, hl, Nat.le_refl _, hlater, fun hlt => by omega⟩
      · rw [if_neg hij] at hj; exact hw.obj j o hj
    · show RepA _ (bif Nat.beq s t then _ else look l s) _
      cases hb : Nat.beq s t with
      | false => exact hr s
      | true =>
        obtain rfl := Nat.eq_of_beq_eq_true hb
        rw [hv]
        exact .sl (.nil sz) ⟨none, 0, rfl, hl⟩
  | some p =>
    have hsp := hb3.2 p rfl
    by_cases hcap0 : 0 < cap
    · obtain ⟨q1, q2, q3, q4⟩ := hb4 p rfl hcap0
      have hns : n * sz ≤ cap * sz := Nat.mul_le_mul_right _ hb2
      let inn : Addr → Prop := fun a => a.block = p.block ∧ a.spot = none ∧ p.off ≤ a.off ∧ a.off < p.off + n * sz
      let G' : Gh := { G with imm := fun a => if a.block = p.block ∧ a.spot = none ∧ p.off ≤ a.off ∧ a.off < p.off + n * sz then w.cell? a else G.imm a }
      have hle : G.le G' := by
        refine ⟨fun x u hu => ?_, fun _ _ h => h, fun _ _ _ h => h, fun _ _ h => h⟩
        have hne : ¬ (x.block = p.block ∧ x.spot = none ∧ p.off ≤ x.off ∧ x.off < p.off + n * sz) := fun hh => by
          have := (q4 (x.off - p.off) (by omega)).2.2
          rw [add_off p q1, ← hh.1, show p.off + (x.off - p.off) = x.off by omega, ← hh.2.1] at this
          rw [show (⟨x.block, x.off, x.spot⟩ : Addr) = x from rfl, hu] at this
          cases this
        show (if _ then _ else _) = _
        rw [if_neg hne]; exact hu
      have hKb := (hw.own _ i q2).2
      have hat : ∀ k, k < n * sz → G'.imm (p.add k) = w.cell? (p.add k) := fun k hk => by
        show (if _ then _ else _) = _
        rw [if_pos (by rw [add_off p q1]; exact ⟨rfl, rfl, by simp, by simp; omega⟩)]
      refine ⟨h1, h2, G', ⟨hw.le.trans hle, fun x u hu => ?_, fun x u hu => ?_, hw.keep, hw.size, hw.os, hw.tape, hw.output, hw.own, fun j hj => hw.fresh j (by simpa using hj), fun j o hj => ?_⟩, fun s => ?_⟩
      · simp only [G'] at hu
        split at hu
        · exact hu
        · exact hw.imm x u hu
      · simp only [G'] at hu
        split at hu
        · rename_i hh; right; rw [hh.1]; exact hKb
        · exact hw.immNew x u hu
      · rw [List.getElem?_set] at hj
        by_cases hij : i = j
        · subst hij
          simp only [if_true, hilt] at hj
          cases hj
          refine ⟨some p, cap, hl, hb2, hlater, fun hlt => ⟨p, rfl, q1, q2, fun k hk1 hk2 => ?_⟩⟩
          obtain ⟨c1, c2, c3⟩ := q4 k hk2
          refine ⟨c1, c2, ?_⟩
          show (if _ then _ else _) = _
          rw [if_neg (by rw [add_off p q1]; simp; omega)]; exact c3
        · rw [if_neg hij] at hj
          refine (hw.obj j o hj).keep hle (fun b hb => ⟨rfl, fun x hx => ?_⟩) (fun _ h => h) (fun h => h)
          have hne : b ≠ p.block := fun hh => by subst hh; rw [q2] at hb; cases hb; exact hij rfl
          show (if _ then _ else _) = _
          rw [if_neg (fun hh => hne (hx.symm.trans hh.1))]
      · show RepA _ (bif Nat.beq s t then _ else look l s) _
        cases hb : Nat.beq s t with
        | false => exact (hr s).mono hle
        | true =>
          obtain rfl := Nat.eq_of_beq_eq_true hb
          rw [hv]
          have hcell : ∀ (i' : Nat) (e : List Dat) (j : Nat) (d : Dat), es[i']? = some e → e[j]? = some d → G'.imm (p.add (i' * sz + j)) = some ((w.cell? (p.add (i' * sz + j))).getD undef) ∧ RepD G'.imm d ((w.cell? (p.add (i' * sz + j))).getD undef) := by
            intro i' e j d he hj
            obtain ⟨c, g1, g2⟩ := hd.2 i' e j d he hj
            rw [Nat.zero_add] at g1
            have hlt := (List.getElem?_eq_some_iff.1 g1).1
            obtain ⟨u, u1, u2, u3⟩ := q3 _ c g1
            rw [hat _ (by omega), u1]
            exact ⟨rfl, (toDat_ok u3 g2).mono hle.imm⟩
          refine .sl ?_ ⟨some p, cap, by rw [hn], by rw [hn]; exact hl⟩
          rw [← hn]
          exact .sl sz es p cap (fun k => (w.cell? (p.add k)).getD undef) q1 (by omega) hd.1 (fun i' e j d he hj => (hcell i' e j d he hj).1) (fun i' e j d he hj => (hcell i' e j d he hj).2)
    · have hc0 : cap = 0 := by omega
      have hn0 : n = 0 := by omega
      have hes : es = [] := List.length_eq_zero_iff.1 (by omega)
      subst hn0; subst hes; subst hc0
      refine ⟨h1, h2, G, ⟨hw.le, hw.imm, hw.immNew, hw.keep, hw.size, hw.os, hw.tape, hw.output, hw.own, fun j hj => hw.fresh j (by simpa using hj), fun j o hj => ?_⟩, fun s => ?_⟩
      · rw [List.getElem?_set] at hj
        by_cases hij : i = j
        · subst hij
          simp only [if_true, hilt] at hj
          cases hj
          exact ⟨some p, 0, hl, Nat.le_refl _, hlater, fun hlt => by omega⟩
        · rw [if_neg hij] at hj; exact hw.obj j o hj
      · show RepA _ (bif Nat.beq s t then _ else look l s) _
        cases hb : Nat.beq s t with
        | false => exact hr s
        | true =>
          obtain rfl := Nat.eq_of_beq_eq_true hb
          rw [hv]
          exact .sl (RepD.sl sz [] p 0 (fun _ => undef) hsp (Nat.le_refl _) (fun e he => by cases he) (fun i e j d he => by simp at he) (fun i e j d he => by simp at he)) ⟨some p, 0, rfl, hl⟩

theorem AW_bufOf {P : Program} {E : Env} {N : Nat} {Q : Exit → (Nat → AV) → List AObj → Prop} {c : Code} {l : List (Nat × AV)} {h h' : List AObj} (t sz i : Nat) (ht : look l t = .sl sz [] .full ∨ look l t = .nils) (hi : h[i]? = some .room)
    (hh : forceS (h.set i (.buf sz 0 [])) some = some h') (hc : AW P E N c Q (look ((t, .bm i 0) :: l)) h') : AW P E N c Q (look l) h := by
  rw [forceS_eq] at hh; cases hh
  exact AW_sub (Rel_bufOf ht hi) hc

theorem AW_freezeBuf {P : Program} {E : Env} {N : Nat} {Q : Exit → (Nat → AV) → List AObj → Prop} {c : Code} {l : List (Nat × AV)} {h h' : List AObj} (t i sz : Nat) {n : Nat} {cells : List AV} (es : List (List Dat)) (ht : look l t = .bm i n) (hi : h[i]? = some (.buf sz n cells)) (hn : es.length = n)
    (hd : RowDat cells 0 sz es) (hh : forceS (h.set i (.right sz n)) some = some h') (hc : AW P E N c Q (look ((t, .sl sz es (.right i)) :: l)) h') : AW P E N c Q (look l) h := by
  rw [forceS_eq] at hh; cases hh
  exact AW_sub (Rel_freezeBuf ht hi hn hd) hc
end Tdoc
/- Tables and arrays at an index. No program is named here. -/
set_option linter.unusedSimpArgs false
set_option linter.unusedVariables false
namespace Tdoc
open Go

/-- An array type: how many elements, of which size. -/
def arrT (T : Tr) (t : Nat) : Option (Nat × Nat × Bool) := match T.find t with
  | some i => match i.kind with
    | .array n e => match T.find e with
      | some ie => some (n, ie.size, ie.agg)
      | none => none
    | _ => none
  | none => none

theorem arrT_ok {P : Program} {T : Tr} (hT : TOk P T) {t n sz : Nat} {g : Bool} (h : arrT T t = some (n, sz, g)) : ∃ e ie, P.underlying t = some (.array n e) ∧ TypeAt P e ie ∧ ie.size = sz ∧ ie.agg = g := by
  unfold arrT at h
  split at h
  · rename_i i hi
    split at h
    · rename_i n' e hk
      split at h
      · rename_i ie hie
        cases h
        obtain ⟨d, hd, hkd⟩ := (hT.at hi).und
        rw [hk] at hkd
        cases d <;> simp [kindOk] at hkd
        obtain ⟨rfl, rfl⟩ := hkd
        exact ⟨_, ie, hd, hT.at hie, rfl, rfl⟩
      · cases h
    · cases h
  · cases h

section
variable {P : Program} {E : Env} {T : Tr} {o : Oper} {ρ : Operand → AV} {h h' : List AObj} {v : AV}

/-- An element of a table. -/
theorem arrAddr_ok (hT : TOk P T) {t n sz : Nat} {g : Bool} {x ix : Operand} {k : IntKind} {j : Int} {cs : List Dat} (ho : o.op = .indexAddr t x ix) (ht : arrT T t = some (n, sz, g)) (hx : ρ x = .iptr cs) (hix : ρ ix = .d (.int k j)) (h0 : 0 ≤ j ∧ j < (n : Int)) :
    OpP P o ρ (.iptr (cs.drop (j.toNat * sz))) := by
  intro G e w hi hr
  have hx' : RepA G (ρ x) (e x) := hr x (by simp [ho, Op.operands])
  have hix' : RepA G (ρ ix) (e ix) := hr ix (by simp [ho, Op.operands])
  rw [hx] at hx'; rw [hix] at hix'
  obtain ⟨et, ie, h1, h2, h3, h4⟩ := arrT_ok hT ht
  obtain ⟨a, hv, hd⟩ := iptr_drop hx' (j.toNat * sz)
  refine ⟨_, ?_, hd⟩
  unfold execOp
  simp only [ho, Sem.run_bind]
  rw [hv, hix'.int_inv]
  simp [Instr.indexAt, asIntOf, run_underlying h1, Instr.sureAddr, h0.1, h0.2, h2.run_size, h3]

/-- append, the right's count told by the list. -/
theorem append_rightL (hT : TOk P T) {t t2 sz by_ i : Nat} {s x : Operand} {es es2 : List (List Dat)} (ho : o.op = .call { callee := .builtin .append, args := #[s, x], argTypes := #[t, t2] })
    (ht : appT T t = some (sz, by_)) (ht2 : srcT T t2 = true) (hs : ρ s = .sl sz es (.right i)) (hi : h[i]? = some (.right sz es.length)) (hx : asNew sz (ρ x) = some es2)
    (hb : (es.length + es2.length) * (by_ + 1) ≤ 140737488355328) :
    OpS P E o ρ h (.sl sz (es ++ es2) (.right i)) (h.set i (.right sz (es ++ es2).length)) := by
  rw [List.length_append]
  exact append_right hT ho ht ht2 hs hi hx hb

/-- A store into a buffer, all told apart. -/
theorem bufStoreE (hT : TOk P T) {t i n off sz : Nat} {ti : TI} {x y : Operand} {cells : List AV} {vy : AV} (ho : o.op = .store t x y) (hx : ρ x = .bp i n off) (hyv : ρ y = vy) (hi : h[i]? = some (.buf sz n cells)) (hf : T.find t = some ti) (hsz : Nat.beq ti.size 1 = true)
    (hs : scalarA vy = true) (hlt : off < cells.length) (hh : h.set i (.buf sz n (cells.set off vy)) = h') : OpS P E o ρ h .any h' := by
  subst hyv; subst hh
  exact bufStore_ok hT ho hx hi hf hsz hs hlt

/-- An element of an array that is a value. -/
theorem arrIdx_ok (hT : TOk P T) {t n : Nat} {x ix : Operand} {k : IntKind} {j : Int} {cs : List AV} (ho : o.op = .index t x ix) (ht : arrT T t = some (n, 1, false)) (hx : ρ x = .agg cs) (hix : ρ ix = .d (.int k j)) (h0 : 0 ≤ j ∧ j < (n : Int))
    (hv : cs[j.toNat]? = some v) : OpP P o ρ v := by
  intro G e w hi hr
  have hx' : RepA G (ρ x) (e x) := hr x (by simp [ho, Op.operands])
  have hix' : RepA G (ρ ix) (e ix) := hr ix (by simp [ho, Op.operands])
  rw [hx] at hx'; rw [hix] at hix'
  obtain ⟨et, ie, h1, h2, h3, h4⟩ := arrT_ok hT ht
  generalize hu : e x = u at hx'
  cases hx' with
  | agg us h5 h6 h7 =>
  have hlt : j.toNat < us.size := by rw [h5]; exact (List.getElem?_eq_some_iff.1 hv).1
  have hg : us[j.toNat]? = some us[j.toNat] := by simp [hlt]
  refine ⟨us[j.toNat], ?_, h6 _ v _ hv hg⟩
  unfold execOp
  simp only [ho, Sem.run_bind]
  rw [hu, hix'.int_inv]
  simp [Instr.index, asIntOf, run_underlying h1, h0.1, h0.2, h2.run_size, h3, Go.part, h2.run_agg, h4, hg]
end
end Tdoc
/- Contracts at weaker arguments. No program is named here. -/
set_option linter.unusedSimpArgs false
set_option linter.unusedVariables false
namespace Tdoc
open Go

theorem Spec.args {P : Program} {f : FuncId} {args args' : List AV} {h : List AObj} {Q : AV → List AObj → Prop} (hl : AllLe args args') (S : Spec P f args' h Q) : Spec P f args h Q := by
  obtain ⟨h1, h2⟩ := AllLe_at hl
  refine ⟨S.1, fun G w vals hs hv ht hw => S.2 G w vals (hs.trans h1) (fun j y v hy hj => ?_) ht hw⟩
  obtain ⟨x, hx, hle⟩ := h2 j y hy
  exact hle _ _ (hv j x v hx hj)

theorem callS0L {P : Program} {E : Env} {o : Oper} {ρ : Operand → AV} {H : List AObj} {f : Operand} {as : List Operand} {ats : Array TypeId} {g : FuncId} {first cap : List AV} (ho : o.op = .call ⟨.value f, as.toArray, ats⟩) (hf : ρ f = .fn (.func g) first cap)
    {args args' : List AV} {r0 : AV} (S : Spec P g args' [] (fun r h' => r = r0 ∧ h' = [])) (hargs : first ++ (as.map ρ ++ cap) = args) (hle : AllLe args args') (hla : lowL 0 args = true) (hr0 : low 0 r0 = true) : OpS P E o ρ H r0 H :=
  callS0 ho hf (Spec.args hle S) hargs hla hr0
end Tdoc
/- A longer slice made only for a call, whose spare room is used again: an append and a call as one step. No program is named here. -/
set_option linter.unusedSimpArgs false
set_option linter.unusedVariables false
namespace Tdoc
open Go

theorem cell_block_lt {w : World} {a : Addr} {v : Value} (h : w.cell? a = some v) : a.block < w.heap.size := by
  by_cases hb : a.block < w.heap.size
  · exact hb
  · exfalso
    unfold World.cell? at h
    rw [Array.getElem?_eq_none (by omega)] at h
    simp at h

theorem WRel_grow {E : Env} {G : Gh} {h : List AObj} {w w' : World} (hw : WRel E G h w) (hb : ∀ b, b < w.heap.size → w'.heap[b]? = w.heap[b]?) (hs : w.heap.size ≤ w'.heap.size) (ho : w'.os = w.os) (ht : w'.tape = w.tape) (hu : w'.output = w.output) : WRel E G h w' := by
  refine ⟨hw.le, fun a v ha => ?_, hw.immNew, fun b hk => ?_, Nat.le_trans hw.size hs, ho.trans hw.os, ht.trans hw.tape, hu.trans hw.output, fun b i hb' => ⟨Nat.lt_of_lt_of_le (hw.own b i hb').1 hs, (hw.own b i hb').2⟩, hw.fresh, fun i o hi => ?_⟩
  · have h1 := hw.imm a v ha
    rw [World.cell?_of_block (w := w) (hb _ (cell_block_lt h1))]; exact h1
  · rw [hb b (Nat.lt_of_lt_of_le hk.1 hw.size)]; exact hw.keep b hk
  · exact (hw.obj i o hi).keep (.refl G) (fun b hb' => ⟨hb b (hw.own b i hb').1, fun a _ => rfl⟩) (fun n hn => hn) (fun hn => hn)

section
variable {P : Program} {T : Tr} {E : Env} {o : Oper} {ρ : Operand → AV} {h : List AObj}

/-- An append whose result is not told as a right: what is known of the objects is as before. -/
theorem tempAppend (hT : TOk P T) {t t2 sz by_ i : Nat} {s x : Operand} {es es2 : List (List Dat)} (ho : o.op = .call { callee := .builtin .append, args := #[s, x], argTypes := #[t, t2] })
    (ht : appT T t = some (sz, by_)) (ht2 : srcT T t2 = true) (hs : ρ s = .sl sz es (.right i)) (hi : h[i]? = some (.right sz es.length)) (hx : asNew sz (ρ x) = some es2) (hz : es2 ≠ [])
    (hb : (es.length + es2.length) * (by_ + 1) ≤ 140737488355328) (G : Gh) (e : Operand → Value) (w : World) (hw : WRel E G h w) (hr : ∀ x, x ∈ o.op.operands.toList → RepA G (ρ x) (e x)) :
    ∃ u w' m, (execOp e o).run P w = .ok (.value u) w' ∧ WRel E G h w' ∧ (∀ a v, G.imm a = some v → m a = some v) ∧ (∀ a v, m a = some v → w'.cell? a = some v) ∧ RepD m (.sl sz (es ++ es2)) u := by
  obtain ⟨u, w1, G1, hrun1, hle1, hw1, hu1⟩ := append_rightR hT ho ht ht2 hs hi hx hb G e w hw hr
  have hD : RepD G1.imm (.sl sz (es ++ es2)) u := by cases hu1 with | sl r _ => exact r
  refine ⟨u, w1, G1.imm, hrun1, ?_, hle1.imm, hw1.imm, hD⟩
  have hs' : RepA G (ρ s) (e s) := hr s (by simp [ho, Op.operands, Call.operands])
  have hx' : RepA G (ρ x) (e x) := hr x (by simp [ho, Op.operands, Call.operands])
  obtain ⟨et, ie, h1, h2, rfl, rfl, hzl⟩ := appT_ok hT ht
  obtain ⟨d2, h3, h4⟩ := srcT_ok hT ht2
  obtain ⟨hlen2, news, n1, n2, n3, n4⟩ := asNew_src (P := P) hw.imm hx' hx
  obtain ⟨a, cap, hsv, hrt, hrd⟩ : ∃ a cap, e s = .slice a es.length cap ∧ G.rt i es.length = some (a, cap) ∧ RepD G.imm (.sl ie.size es) (e s) := by
    rw [hs] at hs'
    generalize e s = u at hs'
    cases hs' with
    | sl r k => obtain ⟨a, cap, rfl, hk⟩ := k; exact ⟨a, cap, rfl, hk, r⟩
  obtain ⟨a', cap', hrt', hcap, hlater, hspare⟩ := hw.obj i _ hi
  rw [hrt] at hrt'; cases hrt'
  obtain ⟨olds, o1, o2, o3, o4⟩ := src_of_rep (P := P) hw.imm hrd
  have hex : (execOp e o).run P w = ((Builtin.append_ #[t, t2] o.type #[e s, e x]).run P w).andThen fun u w' => .ok (.value u) w' := by
    unfold execOp
    simp [ho, resolve, invoke, builtin]
  have hpos : 0 < es2.length := List.length_pos_iff.2 hz
  by_cases hfit : es.length + es2.length ≤ cap
  · obtain ⟨p, rfl, p1, p2, p3⟩ := hspare (by omega)
    have hm1 : (es.length + es2.length) * ie.size ≤ cap * ie.size := Nat.mul_le_mul_right _ hfit
    rw [Nat.add_mul] at hm1
    have hspot : (p.add (es.length * ie.size)).spot = none := add_spot p p1 _
    obtain ⟨w', q1, q2, q3, q4, q5, q6, q7, q8, q9⟩ := store_spare (P := P) hspot news 0 w n3 (fun k hk => by
      rw [Nat.zero_add, add_add p p1]
      obtain ⟨c1, c2, _⟩ := p3 (es.length * ie.size + k) (by omega) (by omega)
      exact ⟨c1, c2⟩)
    have hrun := run_append_in (ty := o.type) h1 h3 h4 h2 (w' := w') (a := some p) (n := es.length) (cap := cap) n1 hfit (by simpa using q1)
    have hww : w' = w1 := by
      rw [hex, hsv, hrun] at hrun1
      simp at hrun1
      exact hrun1.2
    subst hww
    refine ⟨hw.le, fun a v ha => hw1.imm a v (hle1.imm a v ha), hw.immNew, hw1.keep, hw1.size, hw1.os, hw1.tape, hw1.output, fun b j hb' => hw1.own b j (hle1.own b j hb'), hw.fresh, fun j ob hj => ?_⟩
    by_cases hij : i = j
    · subst hij
      rw [hi] at hj
      cases hj
      refine ⟨some p, cap, hrt, hcap, hlater, fun hlt => ⟨p, rfl, p1, p2, fun k hk1 hk2 => ?_⟩⟩
      obtain ⟨⟨v, c1⟩, c2, c3⟩ := p3 k hk1 hk2
      refine ⟨?_, by rw [q4]; exact c2, c3⟩
      by_cases hkn : k < es.length * ie.size + news.length
      · have hget : news[k - es.length * ie.size]? = some (news[k - es.length * ie.size]'(by omega)) := by simp [show k - es.length * ie.size < news.length by omega]
        have := q2 _ _ hget
        rw [Nat.zero_add, add_add p p1, show es.length * ie.size + (k - es.length * ie.size) = k by omega] at this
        exact ⟨_, this⟩
      · rw [q3 _ (fun k' hk' hh => by
          rw [Nat.zero_add, add_add p p1, add_off p p1, add_off p p1] at hh
          injection hh with _ h5 _
          omega)]
        exact ⟨v, c1⟩
    · refine (hw.obj j ob hj).keep (.refl G) (fun b hb' => ?_) (fun m hm => hm) (fun hn => hn)
      have hne : b ≠ p.block := fun hh => by subst hh; rw [p2] at hb'; cases hb'; exact hij rfl
      exact ⟨q5 b (by rw [add_block]; exact hne), fun a ha => rfl⟩
  · obtain ⟨newCap, rest, w', c1, c2, c3, c4, c5, c6, c7⟩ := run_append_out (ty := o.type) h1 h3 h4 h2 hsv o1 n1 (by omega) hb
    have hww : w' = w1 := by
      rw [hex, c2] at hrun1
      simp at hrun1
      exact hrun1.2
    subst hww
    exact WRel_grow hw (fun b hb' => by rw [c3]; exact heap_push_old _ _ _ hb') (by rw [c3]; simp) c5 c6 c7
end

/-! regions, part by part -/

def AWw (P : Program) (E : Env) (N : Nat) (ops : List Oper) (Q : Exit → (Nat → AV) → List AObj → Prop) (rest : List Oper) (τ : Nat → AV) (h : List AObj) : Prop :=
  ∀ (k : Nat) (a : Act) (w : World), (∀ j, rest[j]? = ops[k + j]?) → Rel E N τ h a w → wpOps P ops.toArray (fun ex a' w' => ∃ τ' h', Q ex τ' h' ∧ Rel E N τ' h' a' w') (List.range' k rest.length) a w

theorem AWw_of {P : Program} {E : Env} {N : Nat} {ops : List Oper} {Q : Exit → (Nat → AV) → List AObj → Prop} {rest : List Oper} {τ : Nat → AV} {h : List AObj} (hk : AWk P E N ops (Q .normal) rest τ h) : AWw P E N ops Q rest τ h :=
  fun k a w hj hr => AWk_sound rest k τ h a w hj hk hr

theorem AWw_pre {P : Program} {E : Env} {N : Nat} {ops : List Oper} {Q : Exit → (Nat → AV) → List AObj → Prop} {post : List Oper} : ∀ (pre : List Oper) (τ : Nat → AV) (h : List AObj),
    AWk P E N ops (fun τ h => AWw P E N ops Q post τ h) pre τ h → AWw P E N ops Q (pre ++ post) τ h
  | [], τ, h, hk => hk
  | o :: pre, τ, h, hk => by
    obtain ⟨R, hs, hnext⟩ := hk
    intro k a w hj hr
    have ho : ops.toArray[k]? = some o := by simpa using (hj 0).symm
    simp only [List.cons_append, List.length_cons, List.range'_succ]
    rw [wpOps_cons]
    exact step_sound ho hs hr fun v h' a' w' hR hrel =>
      AWw_pre pre _ _ (hnext v h' hR) (k + 1) a' w' (fun j => by have := hj (j + 1); simpa [Nat.add_assoc, Nat.add_comm 1 j] using this) hrel

theorem AW_regionAt {P : Program} {E : Env} {N : Nat} {id : Nat} {ops : List Oper} {Q : Exit → (Nat → AV) → List AObj → Prop} {τ : Nat → AV} {h : List AObj} (pre post : List Oper) (he : ops = pre ++ post)
    (hk : AWk P E N ops (fun τ h => AWw P E N ops Q post τ h) pre τ h) : AW P E N (.region id ops.toArray false) Q τ h := by
  intro a w hr
  refine wp_region ?_
  have := AWw_pre pre τ h hk 0 a w (fun j => by rw [← he]; simp) hr
  rw [← he] at this
  simpa [List.range_eq_range'] using this

set_option maxHeartbeats 1000000 in
/-- The append and the call. -/
theorem AWw_tempCall {P : Program} {T : Tr} (hT : TOk P T) {E : Env} {N : Nat} {ops : List Oper} {Q : Exit → (Nat → AV) → List AObj → Prop} {d1 d2 : Nat} {ty1 ty2 : TypeId} {pos1 pos2 : String} {after1 after2 : Array Edge} {rest : List Oper}
    {l : List (Nat × AV)} {h : List AObj} {t t2 sz by_ i : Nat} {s x f : Operand} {ats : Array TypeId} {g : FuncId} {es es2 : List (List Dat)} {r0 : AV}
    (ht : appT T t = some (sz, by_)) (ht2 : srcT T t2 = true) (hs : ev (look l) s = .sl sz es (.right i)) (hi : h[i]? = some (.right sz es.length)) (hx : asNew sz (ev (look l) x) = some es2) (hz : es2 ≠ [])
    (hb : (es.length + es2.length) * (by_ + 1) ≤ 140737488355328) (hd1 : Nat.blt d1 N = true) (hd2 : Nat.blt d2 N = true) (hf : f = .func g)
    (S : Spec P g [.d (.sl sz (es ++ es2))] [] (fun r h' => r = r0 ∧ h' = [])) (hr0 : ∀ G G' v, RepA G r0 v → RepA G' r0 v)
    (hk : AWw P E N ops Q rest (look ((d2, r0) :: (d1, .any) :: l)) h) :
    AWw P E N ops Q (⟨some d1, .call { callee := .builtin .append, args := #[s, x], argTypes := #[t, t2] }, ty1, pos1, after1, none⟩ :: ⟨some d2, .call { callee := .value f, args := #[.tmp d1], argTypes := ats }, ty2, pos2, after2, none⟩ :: rest) (look l) h := by
  subst hf
  intro k a w hj hr
  obtain ⟨r1, r2, G, hw, ht'⟩ := hr
  have hl1 : d1 < N := blt_lt hd1
  have hl2 : d2 < N := blt_lt hd2
  have ho1 := (hj 0).symm
  have ho2 := (hj 1).symm
  simp only [List.getElem?_cons_zero, List.getElem?_cons_succ, Nat.add_zero] at ho1 ho2
  simp only [List.length_cons, List.range'_succ]
  rw [wpOps_cons]
  unfold wpOp
  rw [show ops.toArray[k]? = _ from (by simpa using ho1)]
  simp only
  rw [if_pos (by rfl)]
  left
  obtain ⟨u, w1, m, hrun1, hw1, hm1, hm2, hD⟩ := tempAppend (o := ⟨some d1, .call { callee := .builtin .append, args := #[s, x], argTypes := #[t, t2] }, ty1, pos1, after1, none⟩) (ρ := ev (look l)) hT rfl ht ht2 hs hi hx hz hb G a.eval w hw (fun x _ => eval_rep (E.tab.1.mono hw.le.imm) ht' x)
  show Oper.upon P _ a _ _ ((execOp a.eval _).run P w)
  rw [hrun1, Oper.upon_value]
  have hrel1 : Rel E N (look ((d1, .any) :: l)) h (a.put (some d1) u) w1 := by
    refine ⟨by rw [put_size]; exact r1, by rw [put_defers]; exact r2, G, hw1, ?_⟩
    obtain ⟨tmps, ds⟩ := a
    exact rep_put (dst := some d1) r1 (fun d hd => by cases hd; exact hl1) ht' (.any u) ds
  obtain ⟨s1, s2, G', hw1', ht1⟩ := hrel1
  clear hw1'
  have ht1' : ∀ t, RepA G (look ((d1, .any) :: l) t) ((a.put (some d1) u).tmps.getD t undef) := by
    obtain ⟨tmps, ds⟩ := a
    exact rep_put (dst := some d1) r1 (fun d hd => by cases hd; exact hl1) ht' (.any u) ds
  have hval : (a.put (some d1) u).eval (.tmp d1) = u := by
    obtain ⟨tmps, ds⟩ := a
    have hlt : d1 < tmps.size := by have : tmps.size = N := r1; omega
    simp [Act.put, Act.eval, Array.getD_eq_getD_getElem?, hlt]
  generalize ha1 : a.put (some d1) u = a1 at s1 s2 ht1' hval
  rw [wpOps_cons]
  unfold wpOp
  rw [show ops.toArray[k + 1]? = _ from (by simpa using ho2)]
  simp only
  rw [if_pos (by rfl)]
  left
  obtain ⟨fn, k1, k2, k3⟩ := S.1
  have k2' : ¬ fn.name = "runtime.NumGoroutine" := by simpa using k2
  have k3' : ¬ fn.body = none := by intro hh; rw [hh] at k3; cases k3
  have hrun2 : (execOp a1.eval ⟨some d2, .call { callee := .value (.func g), args := #[.tmp d1], argTypes := ats }, ty2, pos2, after2, none⟩).run P w1 = .ok (.enter g #[u]) w1 := by
    unfold execOp
    have hfc : a1.eval (.func g) = .func (.func g) #[] #[] := rfl
    simp [resolve, hfc, Deferred.ofValue, invoke, callFunc, k1, k2', k3', hval]
  show Oper.upon P _ a1 _ _ ((execOp a1.eval _).run P w1)
  rw [hrun2, Oper.upon_enter]
  have htab : TabOk w1 ⟨m, fun _ => none, fun _ _ => none, fun _ => none⟩ := ⟨TabI.mono (fun a v ha => hm1 a v (hw.le.imm a v ha)) E.tab.1, hw1.tabB fun _ _ => rfl⟩
  have hcall := S.2 ⟨m, fun _ => none, fun _ _ => none, fun _ => none⟩ w1 #[u] rfl (fun j y v hy hv => by
    match j, hy, hv with
    | 0, hy, hv =>
      simp only [List.getElem?_cons_zero, Option.some.injEq] at hy
      simp at hv
      subst hy; subst hv
      exact .d hD
    | j + 1, hy, hv => simp at hy) htab
    ⟨.refl _, hm2, fun a v ha => .inl ha, fun b hb => rfl, Nat.le_refl _, rfl, rfl, rfl, fun b i hb => (by cases hb), fun i hi => ⟨rfl, fun n => rfl⟩, fun i o hi => (by simp at hi)⟩
  refine hcall.mono ?_
  rintro ex w2 ⟨v, r, h', G2, rfl, ⟨rfl, rfl⟩, -, -, -, hv, hw2⟩
  have hw3 : WRel E G h w2 := WRel_grow hw1 (fun b hb => hw2.keep b ⟨hb, rfl⟩) hw2.size hw2.os hw2.tape hw2.output
  refine hk (k + 2) _ w2 (fun j => by have := hj (j + 2); simpa [Nat.add_assoc, Nat.add_comm 2 j] using this) ?_
  refine ⟨by rw [put_size]; exact s1, by rw [put_defers]; exact s2, G, hw3, ?_⟩
  obtain ⟨tmps, ds⟩ := a1
  exact rep_put (dst := some d2) s1 (fun d hd => by cases hd; exact hl2) ht1' (hr0 _ _ _ hv) ds
end Tdoc
/- Bytes of a constant text: a slice that is built and then turned into its own type. No program is named here. -/
set_option linter.unusedSimpArgs false
set_option linter.unusedVariables false
namespace Tdoc
open Go

/-- A block's mark behind its end changes nothing that is told. -/
theorem WRel_marked {E : Env} {G : Gh} {h : List AObj} {w : World} {C : Array Value} {el : TypeId} {f : Nat × Nat} (hE : E.w0.heap.size ≤ w.heap.size) (hown : G.own w.heap.size = none) (hw : WRel E G h (w.alloc (.cells C el))) : WRel E G h (w.alloc (.cells C el f)) := by
  have hne : ∀ b, b ≠ w.heap.size → (w.alloc (.cells C el f)).heap[b]? = (w.alloc (.cells C el)).heap[b]? := fun b hb => by
    show (w.heap.push _)[b]? = (w.heap.push _)[b]?
    rw [Array.getElem?_push, Array.getElem?_push, if_neg hb, if_neg hb]
  have hcell : ∀ a, (w.alloc (.cells C el f)).cell? a = (w.alloc (.cells C el)).cell? a := fun a => by
    by_cases hb : a.block = w.heap.size
    · have h1 : (w.alloc (.cells C el f)).heap[a.block]? = some (.cells C el f) := by rw [hb]; exact Array.getElem?_push_size
      have h2 : (w.alloc (.cells C el)).heap[a.block]? = some (.cells C el) := by rw [hb]; exact Array.getElem?_push_size
      simp only [World.cell?, h1, h2]
    · exact World.cell?_of_block (hne _ hb)
  have hsz : (w.alloc (.cells C el f)).heap.size = (w.alloc (.cells C el)).heap.size := by show (w.heap.push _).size = (w.heap.push _).size; simp
  refine ⟨hw.le, fun a v ha => by rw [hcell]; exact hw.imm a v ha, hw.immNew, fun b hk => ?_, by rw [hsz]; exact hw.size, hw.os, hw.tape, hw.output, fun b i hb => by rw [hsz]; exact hw.own b i hb, hw.fresh, fun i o hi => ?_⟩
  · rw [hne b (by have := hk.1; omega)]; exact hw.keep b hk
  · exact (hw.obj i o hi).keep (.refl G) (fun b hb' => ⟨hne b (fun hh => by rw [hh, hown] at hb'; cases hb'), fun a _ => rfl⟩) (fun n hn => hn) (fun hn => hn)

set_option maxHeartbeats 1000000 in
/-- The built row and its conversion. -/
theorem AWw_constBytes {P : Program} {T : Tr} (hT : TOk P T) {E : Env} {N : Nat} {ops : List Oper} {Q : Exit → (Nat → AV) → List AObj → Prop} {d1 d2 : Nat} {ty1 ty2 : TypeId} {pos1 pos2 : String} {after1 after2 : Array Edge} {rest : List Oper}
    {l : List (Nat × AV)} {h : List AObj} {t len sz : Nat} {parts : Array (Nat × Operand)} {es : List (List Dat)} {tok : Tok}
    (hb : isByteSlice T t = true) (hv : buildSlA T t len (parts.toList.map fun x => (x.1, ev (look l) x.2)) = some (.sl sz es tok)) (hd1 : Nat.blt d1 N = true) (hd2 : Nat.blt d2 N = true)
    (hk : AWw P E N ops Q rest (look ((d2, .d (.sl sz es)) :: (d1, .any) :: l)) h) :
    AWw P E N ops Q (⟨some d1, .buildSlice t len parts, ty1, pos1, after1, none⟩ :: ⟨some d2, .convert t t (.tmp d1), ty2, pos2, after2, none⟩ :: rest) (look l) h := by
  intro k a w hj hr
  obtain ⟨r1, r2, G, hw, ht'⟩ := hr
  have hl1 : d1 < N := blt_lt hd1
  have hl2 : d2 < N := blt_lt hd2
  have ho1 := (hj 0).symm
  have ho2 := (hj 1).symm
  simp only [List.getElem?_cons_zero, List.getElem?_cons_succ, Nat.add_zero] at ho1 ho2
  simp only [List.length_cons, List.range'_succ]
  rw [wpOps_cons]
  unfold wpOp
  rw [show ops.toArray[k]? = _ from (by simpa using ho1)]
  simp only
  rw [if_pos (by rfl)]
  left
  obtain ⟨el, C, G1, hel, hown, hrun1, hle1, hw1, hu⟩ := buildSl_run (o := ⟨some d1, .buildSlice t len parts, ty1, pos1, after1, none⟩) (ρ := ev (look l)) hT rfl hv G a.eval w hw (fun x _ => eval_rep (E.tab.1.mono hw.le.imm) ht' x)
  obtain ⟨el', hel1, hel2⟩ := isByteSlice_ok hT hb
  rw [hel] at hel1
  cases hel1
  show Oper.upon P _ a _ _ ((execOp a.eval _).run P w)
  rw [hrun1, Oper.upon_value]
  have ht1 : ∀ t, RepA G1 (look ((d1, .any) :: l) t) ((a.put (some d1) (.slice (some ⟨w.heap.size, 0, none⟩) len len)).tmps.getD t undef) := by
    obtain ⟨tmps, ds⟩ := a
    exact rep_put (dst := some d1) r1 (fun d hd => by cases hd; exact hl1) (fun t => (ht' t).mono hle1) (.any _) ds
  have hval : (a.put (some d1) (.slice (some ⟨w.heap.size, 0, none⟩) len len)).eval (.tmp d1) = .slice (some ⟨w.heap.size, 0, none⟩) len len := by
    obtain ⟨tmps, ds⟩ := a
    have hlt : d1 < tmps.size := by have : tmps.size = N := r1; omega
    simp [Act.put, Act.eval, Array.getD_eq_getD_getElem?, hlt]
  have s1 : (a.put (some d1) (.slice (some ⟨w.heap.size, 0, none⟩) len len)).tmps.size = N := by rw [put_size]; exact r1
  have s2 : (a.put (some d1) (.slice (some ⟨w.heap.size, 0, none⟩) len len)).defers = [] := by rw [put_defers]; exact r2
  generalize a.put (some d1) (.slice (some ⟨w.heap.size, 0, none⟩) len len) = a1 at ht1 hval s1 s2
  rw [wpOps_cons]
  unfold wpOp
  rw [show ops.toArray[k + 1]? = _ from (by simpa using ho2)]
  simp only
  rw [if_pos (by rfl)]
  left
  have hrun2 : (execOp a1.eval ⟨some d2, .convert t t (.tmp d1), ty2, pos2, after2, none⟩).run P (w.alloc (.cells C el)) = .ok (.value (.slice (some ⟨w.heap.size, 0, none⟩) len len)) (w.alloc (.cells C el (C.size, C.size + 1))) := by
    have := Go.Lib.run_convert_bytes_const (P := P) w t el C len len hel hel2
    unfold execOp
    simp [hval, this]
  show Oper.upon P _ a1 _ _ ((execOp a1.eval _).run P (w.alloc (.cells C el)))
  rw [hrun2, Oper.upon_value]
  have hfree : G1.own w.heap.size = none := by
    rw [hown]
    cases ho : G.own w.heap.size with
    | none => rfl
    | some j => have := (hw.own _ _ ho).1; omega
  have hw2 := WRel_marked (f := (C.size, C.size + 1)) hw.size hfree hw1
  have hu2 : RepA G1 (.d (.sl sz es)) (.slice (some ⟨w.heap.size, 0, none⟩) len len) := by cases hu with | sl r _ => exact .d r
  refine hk (k + 2) _ _ (fun j => by have := hj (j + 2); simpa [Nat.add_assoc, Nat.add_comm 2 j] using this) ?_
  refine ⟨by rw [put_size]; exact s1, by rw [put_defers]; exact s2, G1, hw2, ?_⟩
  obtain ⟨tmps, ds⟩ := a1
  exact rep_put (dst := some d2) s1 (fun d hd => by cases hd; exact hl2) ht1 hu2 ds

theorem AWw_one {P : Program} {E : Env} {N : Nat} {ops : List Oper} {Q : Exit → (Nat → AV) → List AObj → Prop} {o : Oper} {rest : List Oper} {τ : Nat → AV} {h : List AObj}
    (hk : AWk P E N ops (fun τ h => AWw P E N ops Q rest τ h) [o] τ h) : AWw P E N ops Q (o :: rest) τ h := AWw_pre [o] τ h hk
end Tdoc
/- Calls whose contract tells a family of ends; ends of bodies. No program is named here. -/
set_option linter.unusedSimpArgs false
set_option linter.unusedVariables false
namespace Tdoc
open Go

theorem OpR.mono {P : Program} {E : Env} {o : Oper} {ρ : Operand → AV} {h : List AObj} {R R' : AV → List AObj → Prop} (hs : OpR P E o ρ h R) (hr : ∀ v k, R v k → R' v k) : OpR P E o ρ h R' := by
  intro G a w hw hρ
  refine wp_mono2 ?_ (hs G a w hw hρ)
  rintro a' w' ⟨u, G', v', h', k, r⟩
  exact ⟨u, G', v', h', hr _ _ k, r⟩

/-- A call whose end is one of a family. -/
theorem callX {P : Program} {E : Env} {o : Oper} {ρ : Operand → AV} {H : List AObj} {f : Operand} {as : List Operand} {ats : Array TypeId} {g : FuncId} {first cap : List AV} (ho : o.op = .call ⟨.value f, as.toArray, ats⟩) (hf : ρ f = .fn (.func g) first cap)
    {args : List AV} {hc : List AObj} {ι : Type} {p : ι → Prop} {rf : ι → AV} {hf' : ι → List AObj} (S : Spec P g args hc (fun r h' => ∃ x, p x ∧ r = rf x ∧ h' = hf' x)) (fs : List Nat) (hnd : fs.Nodup)
    (hobj : fs.map (fun j => H[j]?) = hc.map some) (hargs : first ++ (as.map ρ ++ cap) = renL (fsf fs) args) (hla : lowL fs.length args = true) (hlow : lowH 0 hc = true) (hlow' : ∀ x, lowH 0 (hf' x) = true) (hr0 : ∀ x, ren (fsf fs) (rf x) = rf x)
    {H' : ι → List AObj} (hH : ∀ x, updH H fs (hf' x) = H' x) : OpR P E o ρ H (fun v k => ∃ x, p x ∧ v = rf x ∧ k = H' x) := by
  refine OpR.mono (callR ho hf S fs hnd (by rw [hobj]; have := renH_low (fsf fs) hc hlow; rw [show hc.map (fun o => some (renO (fsf fs) o)) = (hc.map (renO (fsf fs))).map some by simp, this]) (lowH_mono (Nat.zero_le _) hc hlow) hargs hla) ?_
  rintro v k ⟨r, h', ⟨x, hp, rfl, rfl⟩, hl, rfl, rfl⟩
  exact ⟨x, hp, hr0 x, by rw [renH_low (fsf fs) _ (hlow' x)]; exact hH x⟩

/-- The same, the result named with the caller's objects. -/
theorem callXv {P : Program} {E : Env} {o : Oper} {ρ : Operand → AV} {H : List AObj} {f : Operand} {as : List Operand} {ats : Array TypeId} {g : FuncId} {first cap : List AV} (ho : o.op = .call ⟨.value f, as.toArray, ats⟩) (hf : ρ f = .fn (.func g) first cap)
    {args : List AV} {hc : List AObj} {ι : Type} {p : ι → Prop} {rf : ι → AV} {hf' : ι → List AObj} (S : Spec P g args hc (fun r h' => ∃ x, p x ∧ r = rf x ∧ h' = hf' x)) (fs : List Nat) (hnd : fs.Nodup)
    (hobj : fs.map (fun j => H[j]?) = hc.map some) (hargs : first ++ (as.map ρ ++ cap) = renL (fsf fs) args) (hla : lowL fs.length args = true) (hlow : lowH 0 hc = true) (hlow' : ∀ x, lowH 0 (hf' x) = true) {v : ι → AV} (hr0 : ∀ x, ren (fsf fs) (rf x) = v x)
    {H' : ι → List AObj} (hH : ∀ x, updH H fs (hf' x) = H' x) : OpR P E o ρ H (fun u k => ∃ x, p x ∧ u = v x ∧ k = H' x) := by
  refine OpR.mono (callR ho hf S fs hnd (by rw [hobj]; have := renH_low (fsf fs) hc hlow; rw [show hc.map (fun o => some (renO (fsf fs) o)) = (hc.map (renO (fsf fs))).map some by simp, this]) (lowH_mono (Nat.zero_le _) hc hlow) hargs hla) ?_
  rintro u k ⟨r, h', ⟨x, hp, rfl, rfl⟩, hl, rfl, rfl⟩
  exact ⟨x, hp, hr0 x, by rw [renH_low (fsf fs) _ (hlow' x)]; exact hH x⟩

theorem callS1v {P : Program} {E : Env} {o : Oper} {ρ : Operand → AV} {H : List AObj} {f : Operand} {as : List Operand} {ats : Array TypeId} {g : FuncId} {first cap : List AV} (ho : o.op = .call ⟨.value f, as.toArray, ats⟩) (hf : ρ f = .fn (.func g) first cap)
    {args : List AV} {hc h0 : List AObj} {r0 : AV} (S : Spec P g args hc (fun r h' => r = r0 ∧ h' = h0)) (fs : List Nat) (hnd : fs.Nodup)
    (hobj : fs.map (fun j => H[j]?) = hc.map some) (hargs : first ++ (as.map ρ ++ cap) = renL (fsf fs) args) (hla : lowL fs.length args = true) (hlow : lowH 0 hc = true) (hlow' : lowH 0 h0 = true) {v : AV} (hr0 : ren (fsf fs) r0 = v)
    {H' : List AObj} (hH : updH H fs h0 = H') : OpS P E o ρ H v H' :=
  callS ho hf S fs hnd (by rw [hobj]; have := renH_low (fsf fs) hc hlow; rw [show hc.map (fun o => some (renO (fsf fs) o)) = (hc.map (renO (fsf fs))).map some by simp, this]) (lowH_mono (Nat.zero_le _) hc hlow) hargs hla hr0
    (by rw [renH_low (fsf fs) h0 hlow']; exact hH)

/-- The same without objects. -/
theorem callX0 {P : Program} {E : Env} {o : Oper} {ρ : Operand → AV} {H : List AObj} {f : Operand} {as : List Operand} {ats : Array TypeId} {g : FuncId} {first cap : List AV} (ho : o.op = .call ⟨.value f, as.toArray, ats⟩) (hf : ρ f = .fn (.func g) first cap)
    {args args' : List AV} {ι : Type} {p : ι → Prop} {rf : ι → AV} (S : Spec P g args' [] (fun r h' => ∃ x, p x ∧ r = rf x ∧ h' = [])) (hargs : first ++ (as.map ρ ++ cap) = args) (hle : AllLe args args') (hla : lowL 0 args = true) (hr0 : ∀ x, low 0 (rf x) = true) :
    OpR P E o ρ H (fun v k => ∃ x, p x ∧ v = rf x ∧ k = H) :=
  callX ho hf (Spec.args hle S) [] List.nodup_nil rfl (by rw [hargs, renL_low _ _ hla]) hla rfl (fun _ => rfl) (fun x => ren_low _ _ (hr0 x)) (fun x => by cases H <;> rfl)

theorem AWk_opX {P : Program} {E : Env} {N : Nat} {ops : List Oper} {Q : (Nat → AV) → List AObj → Prop} {d : Nat} {op : Op} {ty : TypeId} {pos : String} {after : Array Edge} {rest : List Oper}
    {l : List (Nat × AV)} {h : List AObj} {ι : Type} {p : ι → Prop} {v : ι → AV} {h' : ι → List AObj} (hs : OpR P E ⟨some d, op, ty, pos, after, none⟩ (ev (look l)) h (fun u k => ∃ x, p x ∧ u = v x ∧ k = h' x)) (hd : Nat.blt d N = true)
    (hk : ∀ x, p x → AWk P E N ops Q rest (look ((d, v x) :: l)) (h' x)) : AWk P E N ops Q (⟨some d, op, ty, pos, after, none⟩ :: rest) (look l) h :=
  AWk_opR hs hd fun u k ⟨x, hp, hu, hk'⟩ => by subst hu; subst hk'; exact hk x hp

/-- The end of a body, the result told first. -/
theorem ret_q {T : Tr} {rs : List ResultVar} {k : Nat} {Q : AV → List AObj → Prop} {τ : Nat → AV} {h h' : List AObj} {v r : AV} (h7 : Q r h') (h1 : resA T τ h rs = some v) (h2 : AV.le v r) (h3 : h' = h.take k) (h4 : h'.length = k) (h5 : low k r = true) (h6 : lowH k h' = true) :
    retP T rs k Q .ret τ h := ⟨v, r, h', h1, h2, h3, h4, h5, h6, h7⟩
theorem ret_qN {T : Tr} {rs : List ResultVar} {k : Nat} {Q : AV → List AObj → Prop} {τ : Nat → AV} {h h' : List AObj} {v r : AV} (h7 : Q r h') (h1 : resA T τ h rs = some v) (h2 : AV.le v r) (h3 : h' = h.take k) (h4 : h'.length = k) (h5 : low k r = true) (h6 : lowH k h' = true) :
    retP T rs k Q .normal τ h := ⟨v, r, h', h1, h2, h3, h4, h5, h6, h7⟩

/-- A guarded call whose end is one of a family; without the guard nothing happens. -/
theorem AWk_gopX {P : Program} {E : Env} {N : Nat} {ops : List Oper} {Q : (Nat → AV) → List AObj → Prop} {d : Nat} {op : Op} {ty : TypeId} {pos : String} {after : Array Edge} {j : Nat} {want : Bool} {rest : List Oper}
    {l : List (Nat × AV)} {h : List AObj} {gd : Nat} {ex : Bool} {ι : Type} {p : ι → Prop} {v : ι → AV} {h' : ι → List AObj} (v0 : AV) (hg : gslot ops l j want = some (gd, ex)) (hd : Nat.blt d N = true) (hgd : Nat.blt gd N = true)
    (hC : ex = true → gAll (look l) (gOps op) ∧ OpR P E ⟨some d, op, ty, pos, after, some (j, want)⟩ (evG (look l) op) h (fun u k => ∃ x, p x ∧ u = v x ∧ k = h' x))
    (hk : ex = true → ∀ x, p x → AWk P E N ops Q rest (look ((d, .gd true (v x)) :: l)) (h' x)) (hk0 : ex = false → AWk P E N ops Q rest (look ((d, .gd false v0) :: l)) h) :
    AWk P E N ops Q (⟨some d, op, ty, pos, after, some (j, want)⟩ :: rest) (look l) h := by
  obtain ⟨g1, g2⟩ := gslot_ok hg
  refine ⟨fun a b => (ex = true ∧ ∃ x, p x ∧ a = .gd true (v x) ∧ b = h' x) ∨ (ex = false ∧ a = .gd false v0 ∧ b = h), ⟨hd, gd, ex, g1, hgd, g2, fun hb => ?_, fun hb => ⟨.gd false v0, .inr ⟨hb, rfl, rfl⟩, fun G => .gd (fun hh => by cases hh) (fun _ => rfl)⟩⟩, ?_⟩
  · have hc := hC hb
    refine OpR_ung hc.1 (OpR_mono hc.2 ?_)
    rintro v' k ⟨x, hp, rfl, rfl⟩
    exact ⟨.gd true (v x), .inl ⟨hb, x, hp, rfl, rfl⟩, fun G y hy => .gd (fun _ => hy) (fun hh => by cases hh)⟩
  · rintro a b (⟨hb, x, hp, rfl, rfl⟩ | ⟨hb, rfl, rfl⟩)
    · exact hk hb x hp
    · exact hk0 hb

theorem AllLe.of_eq {l r : List AV} (h : l = r) : AllLe l r := h ▸ AllLe.refl l
theorem ObLe.row {l r : List AV} (h : l = r) : ObLe (.row l) (.row r) := AllLe.of_eq h
theorem AV.le.int {k : IntKind} {a b : Int} (h : a = b) : AV.le (.d (.int k a)) (.d (.int k b)) := .eq (congrArg (fun z => AV.d (.int k z)) h)
theorem AV.le.bool {a b : Bool} (h : a = b) : AV.le (.d (.bool a)) (.d (.bool b)) := .eq (congrArg (fun z => AV.d (.bool z)) h)
theorem AV.le.sl {sz : Nat} {a b : List (List Dat)} (h : a = b) : AV.le (.d (.sl sz a)) (.d (.sl sz b)) := .eq (congrArg (fun z => AV.d (.sl sz z)) h)
theorem AV.le.slt {sz : Nat} {a b : List (List Dat)} {t : Tok} (h : a = b) : AV.le (.sl sz a t) (.sl sz b t) := .eq (congrArg (fun z => AV.sl sz z t) h)
theorem AV.le.dat' {sz : Nat} {a b : List (List Dat)} {t : Tok} (h : a = b) : AV.le (.sl sz a t) (.d (.sl sz b)) := .trans .dat (.sl h)
theorem AV.le.str {a b : List UInt8} (h : a = b) : AV.le (.d (.str a)) (.d (.str b)) := .eq (congrArg (fun z => AV.d (.str z)) h)
end Tdoc
/- Owned rows: made by append, cut in place, cleared. No program is named here. -/
set_option linter.unusedSimpArgs false
set_option linter.unusedVariables false
namespace Tdoc
open Go

section
variable {P : Program} {E : Env} {T : Tr} {o : Oper} {ρ : Operand → AV} {h h' : List AObj} {v : AV}

/-- An append to an empty slice, whose new row is one's own. -/
theorem appFresh_ok (hT : TOk P T) {t t2 sz by_ i0 : Nat} {s x : Operand} {es2 : List (List Dat)} (ho : o.op = .call { callee := .builtin .append, args := #[s, x], argTypes := #[t, t2] })
    (ht : appT T t = some (sz, by_)) (ht2 : srcT T t2 = true) (hs : ρ s = .sl sz [] .full ∨ ρ s = .nils) (hx : asNew sz (ρ x) = some es2) (hz : es2 ≠ []) (hb : es2.length * (by_ + 1) ≤ 140737488355328) (hroom : h[i0]? = some .room) :
    OpR P E o ρ h (fun u k => ∃ cap : Nat, es2.length ≤ cap ∧ u = .row i0 0 es2.length cap ∧ k = h.set i0 (.row (flatAV es2))) := by
  intro G a w hw hr
  have hs' : RepA G (ρ s) (a.eval s) := hr s (by simp [ho, Op.operands, Call.operands])
  have hx' : RepA G (ρ x) (a.eval x) := hr x (by simp [ho, Op.operands, Call.operands])
  obtain ⟨et, ie, h1, h2, rfl, rfl, hzl⟩ := appT_ok hT ht
  obtain ⟨d2, h3, h4⟩ := srcT_ok hT ht2
  obtain ⟨hlen2, news, n1, n2, n3, n4⟩ := asNew_src (P := P) hw.imm hx' hx
  obtain ⟨p, hsv, hrd⟩ : ∃ p, a.eval s = .slice p 0 0 ∧ RepD G.imm (.sl ie.size []) (a.eval s) := by
    rcases hs with hs | hs
    · rw [hs] at hs'
      generalize a.eval s = u at hs'
      cases hs' with
      | sl r k => obtain ⟨p, rfl⟩ := k; exact ⟨p, rfl, r⟩
    · rw [hs] at hs'
      generalize a.eval s = u at hs'
      cases hs'
      exact ⟨none, rfl, .nil _⟩
  obtain ⟨olds, o1, o2, o3, o4⟩ := src_of_rep (P := P) hw.imm hrd
  have ho0 : olds = [] := by simpa using o2
  subst ho0
  have hpos : 0 < es2.length := List.length_pos_iff.2 hz
  obtain ⟨newCap, rest, w', c1, c2, c3, c4, c5, c6, c7⟩ := run_append_out (ty := o.type) h1 h3 h4 h2 hsv o1 n1 (by simp; omega) (by simpa using hb)
  simp only [List.length_nil, Nat.zero_add] at c1 c2
  have hn := hw.newRowAtW hroom (news.toArray ++ rest) et (flatAV es2) (by simp [n2, flatAV_length hlen2]) (fun j c u hc hu => ?_) w' (by rw [c3]; congr 2; apply Array.ext'; simp) c5 c6 c7
  · have hex : (execOp a.eval o).run P w = .ok (.value (.slice (some ⟨w.heap.size, 0, none⟩) es2.length newCap)) w' := by
      unfold execOp
      simp [ho, resolve, invoke, builtin, c2]
    unfold Oper.wp
    rw [hex]
    exact ⟨_, rowNew G i0 w.heap.size, .row i0 0 es2.length newCap, h.set i0 (.row (flatAV es2)), ⟨newCap, c1, rfl, rfl⟩, rfl, hn.1, hn.2, .row 0 _ _ (by show (if i0 = i0 then _ else _) = _; simp)⟩
  · have hj := (List.getElem?_eq_some_iff.1 hc).1
    have hfl := flatAV_length hlen2
    rw [Array.getElem?_append_left (by simp; omega)] at hu
    simp only [flatAV, List.getElem?_map, Option.map_eq_some_iff] at hc
    obtain ⟨d, hd, rfl⟩ := hc
    obtain ⟨i, j', e, he, hd', hjj⟩ := flatten_at hlen2 hd
    obtain ⟨u', hu', hru⟩ := n4 i e j' d he hd'
    rw [← hjj] at hu'
    have hu2 : news[j]? = some u := by simpa using hu
    rw [hu2] at hu'
    cases hu'
    exact ⟨.d hru, hru.one⟩

theorem cutRow_ok (hT : TOk P T) {t : Nat} {x lo hi mx : Operand} {sz i off n cap : Nat} {l r m : Int} {k1 k2 k3 : IntKind} (ho : o.op = .slice t x (some lo) (some hi) (some mx)) (hs : sliceElem T t sz = true) (hx : ρ x = .row i off n cap)
    (hl : ρ lo = .d (.int k1 l)) (hr' : ρ hi = .d (.int k2 r)) (hm : ρ mx = .d (.int k3 m)) (hb : 0 ≤ l ∧ l ≤ r ∧ r ≤ m ∧ m ≤ cap) : OpP P o ρ .any := by
  intro G e w hi' hr
  have hx' : RepA G (ρ x) (e x) := hr x (by simp [ho, Op.operands])
  have h1 : RepA G (ρ lo) (e lo) := hr lo (by simp [ho, Op.operands])
  have h2 : RepA G (ρ hi) (e hi) := hr hi (by simp [ho, Op.operands])
  have h3 : RepA G (ρ mx) (e mx) := hr mx (by simp [ho, Op.operands])
  rw [hx] at hx'; rw [hl] at h1; rw [hr'] at h2; rw [hm] at h3
  obtain ⟨b, hv, _⟩ := hx'.row_inv
  obtain ⟨et, ie, g1, g2, g3⟩ := sliceElem_ok hT hs
  refine ⟨.slice (if m.toNat = l.toNat then some ⟨b, off, none⟩ else some ((⟨b, off, none⟩ : Addr).add (l.toNat * sz))) (r.toNat - l.toNat) (m.toNat - l.toNat), ?_, .any _⟩
  unfold execOp
  simp only [ho, Sem.run_bind, Instr.sliceAt, Instr.slice, hv, h1.int_inv, h2.int_inv, h3.int_inv]
  simp [h1.int_inv, h2.int_inv, h3.int_inv, run_underlying g1, Instr.sliceBounds, g2.run_size, g3, run_bound_in _ _ _ _ (show 0 ≤ m ∧ m ≤ (cap : Int) by omega), run_bound_in _ _ _ _ (show 0 ≤ r ∧ r ≤ ((m.toNat : Nat) : Int) by omega), run_bound_in _ _ _ _ (show 0 ≤ l ∧ l ≤ ((r.toNat : Nat) : Int) by omega)]

theorem newsOf {G : Gh} {w : World} {b off k : Nat} {cells : List AV} (hrow : RowAt G w b cells) (hle : off + k ≤ cells.length) :
    ∀ (j : Nat) (c : AV) (u : Value), ((cells.drop off).take k)[j]? = some c → ((List.range k).map fun j => (w.cell? ⟨b, off + j, none⟩).getD undef)[j]? = some u → RepA G c u ∧ oneC u = true := by
  intro j c u hc hu
  simp only [List.getElem?_take, List.getElem?_drop] at hc
  split at hc
  · rename_i hj
    obtain ⟨y, y1, y2, y3, _⟩ := hrow _ _ hc
    simp [hj, y1] at hu
    subst hu
    exact ⟨y3, y2⟩
  · cases hc

/-- An append of a row's own part, in place. -/
theorem appSelf_ok (hT : TOk P T) {t t2 sz by_ i n cap off2 m cap2 : Nat} {s x : Operand} {cells : List AV} (ho : o.op = .call { callee := .builtin .append, args := #[s, x], argTypes := #[t, t2] })
    (ht : appT T t = some (sz, by_)) (ht2 : srcT T t2 = true) (hs : ρ s = .row i 0 n cap) (hx : ρ x = .row i off2 m cap2) (hi : h[i]? = some (.row cells)) (hfit : n + m ≤ cap) (hc1 : (n + m) * sz ≤ cells.length) (hc2 : off2 + m * sz ≤ cells.length) :
    OpS P E o ρ h (.row i 0 (n + m) cap) (h.set i (.row (setRun cells (n * sz) ((cells.drop off2).take (m * sz))))) :=
  OpS_of_run fun G e w hw hr => by
    have hs' : RepA G (ρ s) (e s) := hr s (by simp [ho, Op.operands, Call.operands])
    have hx' : RepA G (ρ x) (e x) := hr x (by simp [ho, Op.operands, Call.operands])
    obtain ⟨et, ie, h1, h2, rfl, rfl, hzl⟩ := appT_ok hT ht
    obtain ⟨d2, h3, h4⟩ := srcT_ok hT ht2
    rw [hs] at hs'; rw [hx] at hx'
    obtain ⟨b, hv, hl⟩ := hs'.row_inv
    obtain ⟨b2, hv2, hl2⟩ := hx'.row_inv
    rw [hl] at hl2; cases hl2
    obtain ⟨b', hl', hown, hrow, himm⟩ := hw.obj i _ hi
    rw [hl] at hl'; cases hl'
    have hcell : ∀ k, k < m * ie.size → w.cell? ⟨b, off2 + k, none⟩ = some ((w.cell? ⟨b, off2 + k, none⟩).getD undef) := by
      intro k hk
      have hget : cells[off2 + k]? = some cells[off2 + k] := by simp [show off2 + k < cells.length by omega]
      obtain ⟨y, y1, _⟩ := hrow _ _ hget
      rw [y1]; rfl
    have hsrc : Src P w (e x) m ie.size ((List.range (m * ie.size)).map fun j => (w.cell? ⟨b, off2 + j, none⟩).getD undef) := fun w' hw' => by
      rw [hv2]
      refine ⟨rfl, ?_⟩
      simp only [Builtin.firstCells]
      exact run_loadCells (P := P) w' ⟨b, off2, none⟩ _ _ (fun k hk => by rw [cell?_heap hw', add_mk]; exact hcell k hk)
    rw [Nat.add_mul] at hc1
    obtain ⟨w', q1, q2, q3, q4, q5, q6, q7⟩ := store_cells (P := P) _ ((cells.drop off2).take (m * ie.size)) cells (n * ie.size) 0 w hrow (by simp; omega) (by simp; omega) (newsOf hrow hc2)
    have hrun := run_append_in (ty := o.type) h1 h3 h4 h2 (w' := w') (a := some ⟨b, 0, none⟩) (n := n) (cap := cap) hsrc hfit (by simp only [add_mk, Nat.zero_add]; exact q1)
    refine ⟨.slice (some ⟨b, 0, none⟩) (n + m) cap, w', G, ?_, .refl G, hw.setObj hi hl (by simpa using q2) q3 q4 q5 q6 q7, .row _ _ _ hl⟩
    unfold execOp
    simp [ho, resolve, invoke, builtin, hv, hrun]

/-- A part of an owned row set to zero. -/
theorem clearRow_ok (hT : TOk P T) {t sz by_ i off n cap : Nat} {z : List AV} {x : Operand} {cells : List AV} (ho : o.op = .call { callee := .builtin .clear, args := #[x], argTypes := #[t] })
    (ht : elemT T t = some (sz, by_, z)) (hx : ρ x = .row i off n cap) (hi : h[i]? = some (.row cells)) (hle : off + n * sz ≤ cells.length) :
    OpS P E o ρ h .any (h.set i (.row (setRun cells off (List.replicate n z).flatten))) :=
  OpS_of_run fun G e w hw hr => by
    have hx' : RepA G (ρ x) (e x) := hr x (by simp [ho, Op.operands, Call.operands])
    rw [hx] at hx'
    obtain ⟨et, ie, h1, h2, h3, h4, h5, h6⟩ := elemT_ok hT ht
    obtain ⟨zv, g4, g5⟩ := h2.run_zero (w := w)
    obtain ⟨hl0, hc0⟩ := zrepL_ok g5
    have hzs : zv.cells.size = sz := by
      have : zv.cells.toList.length = ie.zero.length := hl0.symm ▸ rfl
      simp only [Array.length_toList] at this
      rw [this, h5, h6]
    obtain ⟨b, hv, hl⟩ := hx'.row_inv
    obtain ⟨b', hl', hown, hrow, himm⟩ := hw.obj i _ hi
    rw [hl] at hl'; cases hl'
    have hsz : ∀ n, (Builtin.zeroCells zv.cells n).toList.length = n * sz := by intro n; simp [Builtin.zeroCells, hzs]
    obtain ⟨w', q1, q2, q3, q4, q5, q6, q7⟩ := store_cells (P := P) (Builtin.zeroCells zv.cells n).toList (List.replicate n z).flatten cells off 0 w hrow (by rw [hsz]; omega) (by rw [hsz, List.length_flatten, List.map_replicate, List.sum_replicate_nat, h6]) (fun j c u h7 h8 => by
      rw [flat_repl, h6] at h7
      split at h7
      · rename_i hj
        have hlt : j % sz < zv.cells.size := by
          rw [hzs]
          exact Nat.mod_lt _ (by rcases Nat.eq_zero_or_pos sz with h0 | h0; (subst h0; simp at hj); exact h0)
        simp only [Builtin.zeroCells, Array.toList_map, Array.toList_range, List.getElem?_map, Option.map_eq_some_iff] at h8
        obtain ⟨q, hq, rfl⟩ := h8
        have hjq : q = j := by
          rw [List.getElem?_eq_some_iff] at hq
          obtain ⟨_, hh⟩ := hq
          simpa using hh.symm
        subst hjq
        rw [hzs, getElem!_pos zv.cells (q % sz) hlt]
        exact hc0 G _ c _ (by rw [h5]; exact h7) (by simp [hlt])
      · cases h7)
    refine ⟨.tuple #[], w', G, ?_, .refl G, hw.setObj hi hl (by simpa using q2) q3 q4 q5 q6 q7, .any _⟩
    unfold execOp
    cases n with
    | zero =>
      have : w' = w := by
        have hz : (Builtin.zeroCells zv.cells 0).toList = [] := List.eq_nil_of_length_eq_zero (by rw [hsz]; simp)
        rw [hz] at q1
        simp [storeCells] at q1
        exact q1.symm
      subst this
      simp [ho, resolve, invoke, builtin, Builtin.clear_, hv, run_underlying h1]
    | succ n =>
      simp [ho, resolve, invoke, builtin, Builtin.clear_, hv, run_underlying h1, g4, q1]

/-- A place of an array that is a variable. -/
theorem arrPtr_ok (hT : TOk P T) {t n sz i off : Nat} {g : Bool} {x ix : Operand} {k : IntKind} {j : Int} (ho : o.op = .indexAddr t x ix) (ht : arrT T t = some (n, sz, g)) (hx : ρ x = .ptr i off) (hix : ρ ix = .d (.int k j)) (h0 : 0 ≤ j ∧ j < (n : Int)) :
    OpP P o ρ (.ptr i (off + j.toNat * sz)) := by
  intro G e w hi hr
  have hx' : RepA G (ρ x) (e x) := hr x (by simp [ho, Op.operands])
  have hix' : RepA G (ρ ix) (e ix) := hr ix (by simp [ho, Op.operands])
  rw [hx] at hx'; rw [hix] at hix'
  obtain ⟨et, ie, h1, h2, h3, h4⟩ := arrT_ok hT ht
  obtain ⟨b, hv, hl⟩ := hx'.ptr_inv
  refine ⟨.pointer (some ⟨b, off + j.toNat * sz, none⟩), ?_, .ptr _ hl⟩
  unfold execOp
  simp only [ho, Sem.run_bind]
  rw [hv, hix'.int_inv]
  simp [Instr.indexAt, asIntOf, run_underlying h1, Instr.sureAddr, h0.1, h0.2, h2.run_size, h3, add_mk]

theorem rowCutE (hT : TOk P T) {t sz i off n cap : Nat} {x : Operand} {lo hi : Option Operand} {l r : Nat} (ho : o.op = .slice t x lo hi none) (hs : sliceElem T t sz = true) (hx : ρ x = .row i off n cap)
    (hlo : match lo with | none => l = 0 | some y => ∃ k, ρ y = .d (.int k (l : Int))) (hhi : match hi with | none => r = n | some y => ∃ k, ρ y = .d (.int k (r : Int))) (hle : l ≤ r) (hc : r ≤ cap)
    (hv : AV.row i (if cap = l then off else off + l * sz) (r - l) (cap - l) = v) : OpP P o ρ v := hv ▸ rowCut_ok hT ho hs hx hlo hhi hle hc

/-- An append to nothing, into a room, with the right to append further. -/
theorem append_room0 (hT : TOk P T) {t t2 sz by_ i : Nat} {s x : Operand} {es2 : List (List Dat)} (ho : o.op = .call { callee := .builtin .append, args := #[s, x], argTypes := #[t, t2] })
    (ht : appT T t = some (sz, by_)) (ht2 : srcT T t2 = true) (hs : ρ s = .sl sz [] .full ∨ ρ s = .nils) (hsx : s ≠ x) (hi : h[i]? = some .room) (hx : asNew sz (ρ x) = some es2) (hb : es2.length * (by_ + 1) ≤ 140737488355328) :
    OpS P E o ρ h (.sl sz es2 (.right i)) (h.set i (.right sz es2.length)) := by
  have := append_room (E := E) (es := []) hT ho ht ht2 (hs.imp (fun h => h) fun h => ⟨h, rfl⟩) hsx hi hx (by simpa using hb)
  simpa using this
end
end Tdoc
/- A list that its caller owns, told to a callee as data for one call. No program is named here. -/
set_option linter.unusedSimpArgs false
set_option linter.unusedVariables false
namespace Tdoc
open Go

mutual
/-- The arguments as the callee sees them: the owned list as data. -/
def fzA (n sz : Nat) (es : List (List Dat)) : AV → AV
  | .d x => .d x
  | .sl s e _ => .d (.sl s e)
  | .nils => .nils
  | .nilp => .nilp
  | .iptr cs => .iptr cs
  | .bm i m => bif Nat.beq i 0 && Nat.beq m n then .d (.sl sz es) else .any
  | .agg cs => .agg (fzL n sz es cs)
  | _ => .any
def fzL (n sz : Nat) (es : List (List Dat)) : List AV → List AV
  | [] => []
  | a :: l => fzA n sz es a :: fzL n sz es l
end

theorem fzL_at (n sz : Nat) (es : List (List Dat)) : ∀ (l : List AV) (j : Nat), (fzL n sz es l)[j]? = (l[j]?).map (fzA n sz es)
  | [], j => by simp [fzL]
  | a :: l, 0 => by simp [fzL]
  | a :: l, j + 1 => by simpa [fzL] using fzL_at n sz es l j
theorem fzL_length (n sz : Nat) (es : List (List Dat)) : ∀ (l : List AV), (fzL n sz es l).length = l.length
  | [] => rfl
  | a :: l => by simp [fzL, fzL_length n sz es l]

def ghM (m : Addr → Option Value) : Gh := ⟨m, fun _ => none, fun _ _ => none, fun _ => none⟩

theorem fzA_rep {G : Gh} {m : Addr → Option Value} {n sz : Nat} {es : List (List Dat)} (hm : ∀ a v, G.imm a = some v → m a = some v) (h0 : ∀ v, RepA G (.bm 0 n) v → RepD m (.sl sz es) v) {x : AV} {v : Value} (r : RepA G x v) :
    RepA (ghM m) (fzA n sz es x) v := by
  induction r with
  | d r => exact .d (r.mono hm)
  | sl r t => exact .d (r.mono hm)
  | nils => exact .nils
  | ptr off hl => exact .any _
  | iptr a vs h1 h2 h3 => exact .iptr a vs h1 (fun j d hd => hm _ _ (h2 j d hd)) (fun j d hd => (h3 j d hd).mono hm)
  | nilp => exact .nilp
  | row off n cap hl => exact .any _
  | @bm i k a cap hr hz =>
    show RepA _ (bif Nat.beq i 0 && Nat.beq k n then _ else _) _
    cases hb : (Nat.beq i 0 && Nat.beq k n) with
    | false => exact .any _
    | true =>
      rw [Bool.and_eq_true] at hb
      obtain rfl := Nat.eq_of_beq_eq_true hb.1
      obtain rfl := Nat.eq_of_beq_eq_true hb.2
      exact .d (h0 _ (.bm a cap hr hz))
  | bp p cap k hr => exact .any _
  | fn f fs cs h1 h2 _ _ ih1 ih2 => exact .any _
  | nilf => exact .any _
  | ifc h => exact .any _
  | agg vs h1 _ h3 ih =>
    refine .agg vs (by rw [h1, fzL_length]) (fun j x v hx hv => ?_) h3
    rw [fzL_at, Option.map_eq_some_iff] at hx
    obtain ⟨y, hy, rfl⟩ := hx
    exact ih j y v hy hv
  | tup vs h1 _ ih => exact .any _
  | gd _ hu ih => exact .any _
  | any v => exact .any v

theorem bufFrozen {E : Env} {G : Gh} {h : List AObj} {w : World} {i n sz : Nat} {cells : List AV} {es : List (List Dat)} (hw : WRel E G h w) (hi : h[i]? = some (.buf sz n cells)) (hn : es.length = n) (hd : RowDat cells 0 sz es) :
    ∃ m : Addr → Option Value, (∀ a v, G.imm a = some v → m a = some v) ∧ (∀ a v, m a = some v → w.cell? a = some v) ∧ ∀ v, RepA G (.bm i n) v → RepD m (.sl sz es) v := by
  obtain ⟨p, cap, hl, hlater, hb1, hb2, hb3, hb4⟩ := hw.obj i _ hi
  cases p with
  | none =>
    have hc0 := hb3.1 rfl
    have hes : es = [] := List.length_eq_zero_iff.1 (by omega)
    refine ⟨G.imm, fun _ _ h => h, hw.imm, fun v hv => ?_⟩
    obtain ⟨p', cap', rfl, hl'⟩ := hv.bm_inv
    rw [hl] at hl'; cases hl'
    subst hes
    have hn0 : n = 0 := by simpa using hn.symm
    subst hn0; subst hc0
    exact .nil sz
  | some p =>
    have hsp := hb3.2 p rfl
    by_cases hcap0 : 0 < cap
    · obtain ⟨q1, q2, q3, q4⟩ := hb4 p rfl hcap0
      have hns : n * sz ≤ cap * sz := Nat.mul_le_mul_right _ hb2
      let m : Addr → Option Value := fun a => if a.block = p.block ∧ a.spot = none ∧ p.off ≤ a.off ∧ a.off < p.off + n * sz then w.cell? a else G.imm a
      have hle : ∀ a v, G.imm a = some v → m a = some v := by
        intro x u hu
        have hne : ¬ (x.block = p.block ∧ x.spot = none ∧ p.off ≤ x.off ∧ x.off < p.off + n * sz) := fun hh => by
          have := (q4 (x.off - p.off) (by omega)).2.2
          rw [add_off p q1, ← hh.1, show p.off + (x.off - p.off) = x.off by omega, ← hh.2.1] at this
          rw [show (⟨x.block, x.off, x.spot⟩ : Addr) = x from rfl, hu] at this
          cases this
        show (if _ then _ else _) = _
        rw [if_neg hne]; exact hu
      have hat : ∀ k, k < n * sz → m (p.add k) = w.cell? (p.add k) := fun k hk => by
        show (if _ then _ else _) = _
        rw [if_pos (by rw [add_off p q1]; exact ⟨rfl, rfl, by simp, by simp; omega⟩)]
      refine ⟨m, hle, fun x u hu => ?_, fun v hv => ?_⟩
      · simp only [m] at hu
        split at hu
        · exact hu
        · exact hw.imm x u hu
      · obtain ⟨p', cap', rfl, hl'⟩ := hv.bm_inv
        rw [hl] at hl'; cases hl'
        have hcell : ∀ (i' : Nat) (e : List Dat) (j : Nat) (d : Dat), es[i']? = some e → e[j]? = some d → m (p.add (i' * sz + j)) = some ((w.cell? (p.add (i' * sz + j))).getD undef) ∧ RepD m d ((w.cell? (p.add (i' * sz + j))).getD undef) := by
          intro i' e j d he hj
          obtain ⟨c, g1, g2⟩ := hd.2 i' e j d he hj
          rw [Nat.zero_add] at g1
          have hlt := (List.getElem?_eq_some_iff.1 g1).1
          obtain ⟨u, u1, u2, u3⟩ := q3 _ c g1
          rw [hat _ (by omega), u1]
          exact ⟨rfl, (toDat_ok u3 g2).mono hle⟩
        rw [← hn]
        exact .sl sz es p cap (fun k => (w.cell? (p.add k)).getD undef) q1 (by omega) hd.1 (fun i' e j d he hj => (hcell i' e j d he hj).1) (fun i' e j d he hj => (hcell i' e j d he hj).2)
    · have hc0 : cap = 0 := by omega
      have hes : es = [] := List.length_eq_zero_iff.1 (by omega)
      refine ⟨G.imm, fun _ _ h => h, hw.imm, fun v hv => ?_⟩
      obtain ⟨p', cap', rfl, hl'⟩ := hv.bm_inv
      rw [hl] at hl'; cases hl'
      subst hes
      have hn0 : n = 0 := by simpa using hn.symm
      subst hn0; subst hc0
      exact .sl sz [] p 0 (fun _ => undef) hsp (Nat.le_refl _) (fun e he => by cases he) (fun i e j d he => by simp at he) (fun i e j d he => by simp at he)

/-- A contract over data, used with a list that the caller owns and keeps. -/
theorem Spec.tmp {P : Program} {g : FuncId} {args : List AV} {n sz : Nat} {es : List (List Dat)} {cells : List AV} {r0 : AV} (S : Spec P g (fzL n sz es args) [] (fun r h' => r = r0 ∧ h' = []))
    (hn : es.length = n) (hd : RowDat cells 0 sz es) (hr0 : ∀ G G' v, RepA G r0 v → RepA G' r0 v) (h1 : low 1 r0 = true) (h2 : lowH 1 [.buf sz n cells] = true) :
    Spec P g args [.buf sz n cells] (fun r h' => r = r0 ∧ h' = [.buf sz n cells]) := by
  refine ⟨S.1, fun G w vals k1 k2 ht hw => ?_⟩
  obtain ⟨m, m1, m2, m3⟩ := bufFrozen (i := 0) hw rfl hn hd
  have htab : TabOk w (ghM m) := ⟨TabI.mono m1 ht.1, fun g p hg => ⟨rfl, (ht.2 g p hg).2⟩⟩
  have hcall := S.2 (ghM m) w vals (by rw [k1, fzL_length]) (fun j y v hy hv => by
    rw [fzL_at, Option.map_eq_some_iff] at hy
    obtain ⟨x, hx, rfl⟩ := hy
    exact fzA_rep m1 m3 (k2 j x v hx hv)) htab
    ⟨.refl _, m2, fun a v ha => .inl ha, fun b hb => rfl, Nat.le_refl _, rfl, rfl, rfl, fun b i hb => (by cases hb), fun i hi => ⟨rfl, fun n => rfl⟩, fun i o hi => (by simp at hi)⟩
  refine hcall.mono ?_
  rintro ex w2 ⟨v, r, h', G2, rfl, ⟨rfl, rfl⟩, -, -, -, hv, hw2⟩
  exact ⟨v, r, _, G, rfl, ⟨rfl, rfl⟩, rfl, h1, h2, hr0 _ _ _ hv, WRel_grow hw (fun b hb => hw2.keep b ⟨hb, rfl⟩) hw2.size hw2.os hw2.tape hw2.output⟩

theorem bool_any {b : Bool} : ∀ (G G' : Gh) v, RepA G (.d (.bool b)) v → RepA G' (.d (.bool b)) v := fun G G' v h => by rw [h.bool_inv]; exact .d (.bool b)
theorem int_any {k : IntKind} {z : Int} : ∀ (G G' : Gh) v, RepA G (.d (.int k z)) v → RepA G' (.d (.int k z)) v := fun G G' v h => by rw [h.int_inv]; exact .d (.int k z)

section
variable {P : Program} {T : Tr} {E : Env} {o : Oper} {ρ : Operand → AV} {h h' : List AObj}
/-- A store of several cells into an owned list. -/
theorem bufStoreN (hT : TOk P T) {t i n off sz : Nat} {ti : TI} {x y : Operand} {cells cs : List AV} {vy : AV} (ho : o.op = .store t x y) (hx : ρ x = .bp i n off) (hyv : ρ y = vy) (hcs : cellsA vy = some cs) (hi : h[i]? = some (.buf sz n cells)) (hf : T.find t = some ti)
    (hlen : Nat.beq cs.length ti.size = true) (hpos : 0 < cs.length) (hlt : off + cs.length ≤ cells.length) (hh : h.set i (.buf sz n (setRun cells off cs)) = h') : OpS P E o ρ h .any h' := by
  subst hyv; subst hh
  exact OpS_of_skip fun G e w hw hr => by
    have hx' : RepA G (ρ x) (e x) := hr x (by simp [ho, Op.operands])
    have hy' : RepA G (ρ y) (e y) := hr y (by simp [ho, Op.operands])
    rw [hx] at hx'
    obtain ⟨p, cap, hp, hl⟩ := hx'.bp_inv
    obtain ⟨a', cap', hl', hlater, hb1, hb2, hb3, hb4⟩ := hw.obj i _ hi
    rw [hl] at hl'; cases hl'
    have hcap : 0 < cap := by
      rcases Nat.eq_zero_or_pos cap with h0 | h0
      · have : n = 0 := by omega
        subst this; rw [Nat.zero_mul] at hb1; omega
      · exact h0
    obtain ⟨q1, q2, q3, q4⟩ := hb4 p rfl hcap
    have hcs' : n * sz ≤ cap * sz := Nat.mul_le_mul_right _ hb2
    obtain ⟨c1, c2⟩ := cellsA_ok hy' hcs
    have hti := hT.at hf
    have hl2 := Nat.eq_of_beq_eq_true hlen
    have hspot : (p.add off).spot = none := add_spot p q1 _
    have hadd : ∀ k, (p.add off).add (0 + k) = p.add (off + k) := fun k => by rw [Nat.zero_add, add_add p q1]
    have hnl : (e y).cells.toList.length = cs.length := by simp [c1]
    obtain ⟨w', r1, r2, r3, r4, r5, r6, r7, r8, r9⟩ := store_spare (P := P) hspot (e y).cells.toList 0 w (fun k u hk => by
        have hkl : k < cs.length := by rw [← hnl]; exact (List.getElem?_eq_some_iff.1 hk).1
        exact (c2 k _ u (List.getElem?_eq_getElem hkl) (by simpa using hk)).2) (fun k hk => by
        obtain ⟨d1, d2, _⟩ := q4 (off + k) (by omega)
        rw [hadd]
        exact ⟨d1, d2⟩)
    have hne : ∀ j, (∀ k, k < cs.length → j ≠ off + k) → w'.cell? (p.add j) = w.cell? (p.add j) := fun j hj => r3 _ (fun k hk hh => by
      rw [hadd, add_off p q1, add_off p q1] at hh
      injection hh with _ h5 _
      exact hj k (by omega) (by omega))
    refine ⟨w', G, ?_, .refl G, hw.bufAt (bl := p.block) hi (.refl G) (fun _ => rfl) (fun _ => rfl) (fun _ => rfl) (fun _ _ _ => rfl) q2 (fun a u hu => ?_) (fun k hk => r5 k (by rw [add_block]; exact hk)) r6 r7 r8 r9 ?_⟩
    · unfold execOp
      have hsz' : (e y).cells.size = ti.size := by rw [c1, hl2]
      simp [ho, Instr.storeAt, hp, Instr.sureAddr, storeVar, hti.run_size, hsz', r1]
    · rw [r3 a (fun k hk hh => ?_)]
      · exact hw.imm a u hu
      · rw [hadd] at hh
        have := (q4 (off + k) (by omega)).2.2
        rw [← hh, hu] at this; cases this
    · refine ⟨some p, cap, hl, hlater, by rw [setRun_length]; exact hb1, hb2, hb3, fun p' hp' _ => ?_⟩
      cases hp'
      refine ⟨q1, q2, fun j c hj => ?_, fun j hj => ?_⟩
      · rw [setRun_at _ _ _ _ hlt] at hj
        by_cases hjo : off ≤ j ∧ j < off + cs.length
        · rw [if_pos hjo] at hj
          have hkl : j - off < (e y).cells.toList.length := by omega
          have hg := List.getElem?_eq_getElem hkl
          have := r2 (j - off) _ hg
          rw [hadd, show off + (j - off) = j by omega] at this
          have hc := c2 (j - off) c _ hj (by rw [← Array.getElem?_toList]; exact hg)
          exact ⟨_, this, hc.2, hc.1⟩
        · rw [if_neg hjo] at hj
          obtain ⟨u, u1, u2, u3⟩ := q3 j c hj
          exact ⟨u, by rw [hne j (fun k hk => by omega)]; exact u1, u2, u3⟩
      · obtain ⟨⟨u, d1⟩, d2, d3⟩ := q4 j hj
        refine ⟨?_, by rw [r4]; exact d2, d3⟩
        by_cases hjo : off ≤ j ∧ j < off + cs.length
        · have hkl : j - off < (e y).cells.toList.length := by omega
          have := r2 (j - off) _ (List.getElem?_eq_getElem hkl)
          rw [hadd, show off + (j - off) = j by omega] at this
          exact ⟨_, this⟩
        · exact ⟨u, by rw [hne j (fun k hk => by omega)]; exact d1⟩
end
end Tdoc
/- Bytes of a text: as data, and as a row of one's own. No program is named here. -/
set_option linter.unusedSimpArgs false
set_option linter.unusedVariables false
namespace Tdoc
open Go

section
variable {P : Program} {E : Env} {T : Tr} {o : Oper} {ρ : Operand → AV} {h h' : List AObj} {v : AV}

theorem bytesWorld_eq (w : World) (e : TypeId) (s : ByteArray) : Lib.bytesWorld w e s = w.drew.alloc (.cells (Lib.bytesCells w e s) e ((Lib.bytesCells w e s).size, (Lib.bytesCells w e s).size + 1)) := by
  unfold Lib.bytesWorld World.freeze World.alloc
  have hd : w.drew.heap = w.heap := rfl
  simp only [Nat.one_ne_zero, if_false]
  congr 1
  rw [hd]
  apply Array.ext_getElem?
  intro j
  rw [Array.getElem?_modify]
  by_cases hj : w.heap.size = j
  · subst hj
    simp [Array.getElem?_push_size]
  · rw [if_neg hj, Array.getElem?_push, Array.getElem?_push, if_neg (fun h => hj h.symm), if_neg (fun h => hj h.symm)]

theorem bytesCells_at (w : World) (e : TypeId) (s : List UInt8) {j : Nat} {c : UInt8} (h : s[j]? = some c) : (Lib.bytesCells w e ⟨s.toArray⟩)[j]? = some (.int .u8 (c.toNat : Int)) := by
  have hj := (List.getElem?_eq_some_iff.1 h).1
  unfold Lib.bytesCells
  rw [Array.getElem?_append_left (by simpa using hj)]
  simp [h]
theorem bytesCells_size (w : World) (e : TypeId) (s : List UInt8) : s.length ≤ (Lib.bytesCells w e ⟨s.toArray⟩).size := by
  simp [Lib.bytesCells]

/-- The bytes of a text, which nobody writes. -/
theorem strBytes_ok (hT : TOk P T) {t t2 : Nat} {x : Operand} {s : List UInt8} (ho : o.op = .convert t t2 x) (hb : (isStrT T t && isByteSlice T t2) = true) (hx : ρ x = .d (.str s)) :
    OpS P E o ρ h (.d (.sl 1 (s.map fun b => [.int .u8 (b.toNat : Int)]))) h :=
  OpS_of_run fun G e w hw hr => by
    have hx' : RepA G (ρ x) (e x) := hr x (by simp [ho, Op.operands])
    rw [hx] at hx'
    have hv := hx'.str_inv
    simp only [Bool.and_eq_true] at hb
    obtain ⟨et, h1, h2⟩ := isByteSlice_ok hT hb.2
    have h3 := und_of_str hT hb.1
    have hrun := Lib.run_convert_string_bytes (P := P) w t t2 et ⟨s.toArray⟩ h3 h1 h2
    rw [bytesWorld_eq] at hrun
    have hfree : G.own w.heap.size = none := by
      cases ho : G.own w.heap.size with
      | none => rfl
      | some j => have := (hw.own _ _ ho).1; omega
    have hle := immExt_le hw s.length (Lib.bytesCells w et ⟨s.toArray⟩)
    have hnew := hw.newImm s.length (Lib.bytesCells w et ⟨s.toArray⟩) et (w.drew.alloc (.cells (Lib.bytesCells w et ⟨s.toArray⟩) et)) rfl rfl rfl rfl
    have hmk := WRel_marked (w := w.drew) (G := immExt G w.heap.size s.length (Lib.bytesCells w et ⟨s.toArray⟩)) (f := ((Lib.bytesCells w et ⟨s.toArray⟩).size, (Lib.bytesCells w et ⟨s.toArray⟩).size + 1)) hw.size hfree hnew
    refine ⟨.slice (some ⟨w.heap.size, 0, none⟩) s.length (grownCap w s.length 0 et), _, _, ?_, hle, hmk, .d ?_⟩
    · unfold execOp
      simp only [ho, Sem.run_bind]
      rw [hv]
      have hsz : (⟨s.toArray⟩ : ByteArray).size = s.length := by simp [ByteArray.size]
      rw [hsz] at hrun
      rw [hrun]
      rfl
    · have hsz : s.length = (s.map fun b => [Dat.int .u8 (b.toNat : Int)]).length := by simp
      conv => rhs; rw [hsz]
      refine newImm_rep (n := s.length) (fun el hel => ?_) (by simp) _ (by simpa using grownCap_ge w s.length 0 et) (fun i el j d he hd => ?_)
      · obtain ⟨b, _, rfl⟩ := List.mem_map.1 hel; rfl
      · rw [List.getElem?_map, Option.map_eq_some_iff] at he
        obtain ⟨b, hb', rfl⟩ := he
        match j, hd with
        | 0, hd => cases hd; exact ⟨_, by simpa using bytesCells_at w et s hb', .int _ _⟩
        | j + 1, hd => simp at hd

theorem WRel.newRowAtF {G : Gh} {w : World} {i0 : Nat} (hw : WRel E G h w) (hroom : h[i0]? = some .room) (cs : Array Value) (t : TypeId) (cells : List AV) (hs : cells.length ≤ cs.size)
    (hc : ∀ (j : Nat) (c : AV) (u : Value), cells[j]? = some c → cs[j]? = some u → RepA G c u ∧ oneC u = true) (w' : World) (hh : w'.heap = w.heap.push (.cells cs t (cs.size, cs.size + 1))) (ho : w'.os = w.os) (ht : w'.tape = w.tape) (hout : w'.output = w.output) :
    G.le (rowNew G i0 w.heap.size) ∧ WRel E (rowNew G i0 w.heap.size) (h.set i0 (.row cells)) w' := by
  have hf := hw.obj i0 _ hroom
  have hi0 : i0 < h.length := (List.getElem?_eq_some_iff.1 hroom).1
  have hown : G.own w.heap.size = none := by
    cases ho : G.own w.heap.size with
    | none => rfl
    | some i => have := (hw.own _ _ ho).1; omega
  have hle : G.le (rowNew G i0 w.heap.size) := by
    refine ⟨fun _ _ x => x, fun i b x => ?_, fun _ _ _ x => x, fun b i x => ?_⟩
    · show (if i = i0 then some w.heap.size else G.loc i) = some b
      split
      · rename_i e; subst e; rw [hf.1] at x; cases x
      · exact x
    · show (if b = w.heap.size then some i0 else G.own b) = some i
      split
      · rename_i e; subst e; rw [hown] at x; cases x
      · exact x
  have hK : ¬ E.K w.heap.size := fun hk => by have := hw.size; have := hk.1; omega
  refine ⟨hle, hw.le.trans hle, fun a v ha => ?_, hw.immNew, fun b hb => ?_, by rw [hh]; simp; have := hw.size; omega, ho.trans hw.os, ht.trans hw.tape, hout.trans hw.output, fun b i hb => ?_, fun i hi => ?_, fun i ob hi => ?_⟩
  · have hc := hw.imm a v ha
    rw [World.cell?_of_block (w := w) (by rw [hh]; exact heap_push_old _ _ _ (World.block_lt_of_cell? _ _ hc))]
    exact hc
  · rw [hh, heap_push_old _ _ _ (Nat.lt_of_lt_of_le hb.1 hw.size)]; exact hw.keep b hb
  · have hb' : (if b = w.heap.size then some i0 else G.own b) = some i := hb
    split at hb'
    · rename_i e; subst e; exact ⟨by rw [hh]; simp, hK⟩
    · have := hw.own b i hb'; exact ⟨by rw [hh]; simp; omega, this.2⟩
  · simp only [List.length_set] at hi
    have := hw.fresh i (by omega)
    refine ⟨?_, this.2⟩
    show (if i = i0 then some w.heap.size else G.loc i) = none
    rw [if_neg (by omega)]; exact this.1
  · rw [List.getElem?_set] at hi
    by_cases hie : i0 = i
    · subst hie
      simp only [if_true, hi0] at hi
      cases hi
      refine ⟨w.heap.size, ?_, ?_, fun j c hj => ?_, fun a ha => ?_, fun n => hf.2 n⟩
      · show (if i0 = i0 then _ else _) = _; simp
      · show (if w.heap.size = w.heap.size then _ else _) = _; simp
      · have hjl : j < cs.size := Nat.lt_of_lt_of_le (List.getElem?_eq_some_iff.1 hj).1 hs
        obtain ⟨u, hu⟩ : ∃ u, cs[j]? = some u := ⟨cs[j], by simp [hjl]⟩
        obtain ⟨r1, r2⟩ := hc j c u hj hu
        refine ⟨u, by simp [World.cell?, hh, hu], r2, r1.mono hle, ?_⟩
        simp [World.frozen?, hh]
        omega
      · cases hg : G.imm a with
        | none => exact hg
        | some v => have := World.block_lt_of_cell? _ _ (hw.imm a v hg); omega
    · rw [if_neg hie] at hi
      refine (hw.obj i ob hi).keep hle (fun b hb => ?_) (fun n hn => hn) (fun hn => by show (if i = i0 then _ else G.loc i) = none; rw [if_neg (fun e => hie e.symm)]; exact hn)
      exact ⟨by rw [hh]; exact heap_push_old _ _ _ (hw.own b i hb).1, fun a ha => rfl⟩

/-- The bytes of a text, as a row of one's own. -/
theorem strRow_ok (hT : TOk P T) {t t2 i0 : Nat} {x : Operand} {s : List UInt8} (ho : o.op = .convert t t2 x) (hb : (isStrT T t && isByteSlice T t2) = true) (hx : ρ x = .d (.str s)) (hroom : h[i0]? = some .room) :
    OpR P E o ρ h (fun u k => ∃ cap : Nat, s.length ≤ cap ∧ u = .row i0 0 s.length cap ∧ k = h.set i0 (.row (byteAV s))) := by
  intro G a w hw hr
  have hx' : RepA G (ρ x) (a.eval x) := hr x (by simp [ho, Op.operands])
  rw [hx] at hx'
  have hv := hx'.str_inv
  simp only [Bool.and_eq_true] at hb
  obtain ⟨et, h1, h2⟩ := isByteSlice_ok hT hb.2
  have h3 := und_of_str hT hb.1
  have hrun := Lib.run_convert_string_bytes (P := P) w t t2 et ⟨s.toArray⟩ h3 h1 h2
  rw [bytesWorld_eq] at hrun
  have hsz : (⟨s.toArray⟩ : ByteArray).size = s.length := by simp [ByteArray.size]
  rw [hsz] at hrun
  have hn := hw.newRowAtF hroom (Lib.bytesCells w et ⟨s.toArray⟩) et (byteAV s) (by have := bytesCells_size w et s; simpa [byteAV] using this) (fun j c u hc hu => by
    simp only [byteAV, List.getElem?_map, Option.map_eq_some_iff] at hc
    obtain ⟨b, hb', rfl⟩ := hc
    rw [bytesCells_at w et s hb'] at hu
    cases hu
    exact ⟨.d (.int _ _), rfl⟩) (w.drew.alloc (.cells (Lib.bytesCells w et ⟨s.toArray⟩) et ((Lib.bytesCells w et ⟨s.toArray⟩).size, (Lib.bytesCells w et ⟨s.toArray⟩).size + 1))) rfl rfl rfl rfl
  have hex : (execOp a.eval o).run P w = .ok (.value (.slice (some ⟨w.heap.size, 0, none⟩) s.length (grownCap w s.length 0 et))) (w.drew.alloc (.cells (Lib.bytesCells w et ⟨s.toArray⟩) et ((Lib.bytesCells w et ⟨s.toArray⟩).size, (Lib.bytesCells w et ⟨s.toArray⟩).size + 1))) := by
    unfold execOp
    simp only [ho, Sem.run_bind]
    rw [hv, hrun]
    rfl
  unfold Oper.wp
  rw [hex]
  exact ⟨_, rowNew G i0 w.heap.size, .row i0 0 s.length (grownCap w s.length 0 et), h.set i0 (.row (byteAV s)), ⟨_, grownCap_ge w s.length 0 et, rfl, rfl⟩, rfl, hn.1, hn.2, .row 0 _ _ (by show (if i0 = i0 then _ else _) = _; simp)⟩
end
end Tdoc
/- More steps of regions with drawn order. No program is named here. -/
set_option linter.unusedSimpArgs false
set_option linter.unusedVariables false
namespace Tdoc
open Go
variable {P : Program} {E : Env} {N : Nat}

/-- In a region that reads and writes objects one by one: a step that asks the heap nothing, by its own law. -/
theorem AWg_opP {rd wr : Nat → List Nat} {ops : List Oper} {Q : (Nat → AV) → List AObj → Prop} {i d : Nat} {op : Op} {ty : TypeId} {pos : String} {after : Array Edge} {rest : List Oper}
    {l : List (Nat × AV)} {h : List AObj} {v : AV} (hs : OpP P ⟨some d, op, ty, pos, after, none⟩ (ev (look l)) v) (hd : Nat.blt d N = true) (hw : wr i = []) (hk : AWd P E N ops rd wr Q rest (i + 1) (look ((d, v) :: l)) h) :
    AWd P E N ops rd wr Q (⟨some d, op, ty, pos, after, none⟩ :: rest) i (look l) h :=
  ⟨v, [], fun k h1 h2 => by rw [hw]; simp only [updH_nil]; exact ⟨hd, OpR_of_S (OpS_of_pure hs)⟩, by rw [hw, updH_nil]; exact hk⟩
end Tdoc
/- A load of several cells from an owned list. No program is named here. -/
set_option linter.unusedSimpArgs false
set_option linter.unusedVariables false
namespace Tdoc
open Go
variable {P : Program} {E : Env} {T : Tr} {o : Oper} {ρ : Operand → AV} {h : List AObj}

theorem bufLoadN (hT : TOk P T) {t i n off sz : Nat} {ti : TI} {x : Operand} {cells cs : List AV} (ho : o.op = .load t x) (hx : ρ x = .bp i n off) (hi : h[i]? = some (.buf sz n cells)) (hf : T.find t = some ti) (ha : ti.agg = true)
    (hpos : 0 < ti.size) (hle : off + ti.size ≤ cells.length) (hcs : (cells.drop off).take ti.size = cs) : OpS P E o ρ h (.agg cs) h := by
  subst hcs
  exact OpS_of_run fun G e w hw hr => by
    have hx' : RepA G (ρ x) (e x) := hr x (by simp [ho, Op.operands])
    rw [hx] at hx'
    obtain ⟨p, cap, hp, hl⟩ := hx'.bp_inv
    obtain ⟨a', cap', hl', _, hb1, hb2, hb3, hb4⟩ := hw.obj i _ hi
    rw [hl] at hl'; cases hl'
    have hcap : 0 < cap := by
      rcases Nat.eq_zero_or_pos cap with h0 | h0
      · have : n = 0 := by omega
        subst this; simp at hb1; rw [hb1] at hle; simp at hle; omega
      · exact h0
    obtain ⟨q1, q2, q3, q4⟩ := hb4 p rfl hcap
    have hti := hT.at hf
    have hcell : ∀ j, j < ti.size → ∃ u, w.cell? (p.add (off + j)) = some u ∧ oneC u = true ∧ RepA G (cells[off + j]?.getD .any) u := by
      intro j hj
      have hc : cells[off + j]? = some cells[off + j] := by simp [show off + j < cells.length by omega]
      obtain ⟨u, h1, h2, h3⟩ := q3 _ _ hc
      exact ⟨u, h1, h2, by rw [hc]; exact h3⟩
    let f : Nat → Value := fun j => (w.cell? (p.add (off + j))).getD undef
    have hld : (loadCells (p.add off) ti.size).run P w = .ok ((List.range ti.size).map f).toArray w := by
      refine run_loadCells (P := P) w _ _ f (fun j hj => ?_)
      obtain ⟨u, h1, _⟩ := hcell j hj
      rw [add_add p q1]; simp [f, h1]
    refine ⟨.agg ((List.range ti.size).map f).toArray, w, G, ?_, .refl G, hw, .agg _ (by simp; omega) (fun j c y hc hy => ?_) (fun j y hy => ?_)⟩
    · unfold execOp
      simp [ho, Instr.loadAt, hp, Instr.sureAddr, loadVar, hti.run_agg, ha, hti.run_size, hld]
    · simp only [List.getElem?_take, List.getElem?_drop] at hc
      split at hc
      · rename_i hj
        obtain ⟨u, h1, h2, h3⟩ := hcell j hj
        simp [hj, f, h1] at hy
        subst hy
        rw [hc] at h3; exact h3
      · cases hc
    · by_cases hj : j < ti.size
      · obtain ⟨u, h1, h2, h3⟩ := hcell j hj
        simp [hj, f, h1] at hy
        subst hy; exact h2
      · simp [hj] at hy
end Tdoc
