/- Regions that draw their order: one walk in the text's order serves every order. No program is named here. -/
import Derived.Test.YtkkfcpohiofinaaDoorA9
set_option linter.unusedSimpArgs false
set_option linter.unusedVariables false
namespace Tdoc
open Go

def updH (h : List AObj) : List Nat → List AObj → List AObj
  | j :: fs, o :: os => updH (h.set j o) fs os
  | _, _ => h

theorem updH_length : ∀ (fs : List Nat) (os h : List AObj), (updH h fs os).length = h.length
  | [], os, h => by cases os <;> rfl
  | j :: fs, [], h => rfl
  | j :: fs, o :: os, h => by simp [updH, updH_length fs os]

theorem updH_other : ∀ (fs : List Nat) (os h : List AObj) (j : Nat), j ∉ fs → (updH h fs os)[j]? = h[j]?
  | [], os, h, j, _ => by cases os <;> rfl
  | a :: fs, [], h, j, _ => rfl
  | a :: fs, o :: os, h, j, hn => by
    simp only [List.mem_cons, not_or] at hn
    rw [updH, updH_other fs os _ j hn.2, List.getElem?_set_ne (by omega)]


theorem updH_comm : ∀ (fs gs : List Nat) (os qs h : List AObj), (∀ x, x ∈ fs → x ∉ gs) → updH (updH h fs os) gs qs = updH (updH h gs qs) fs os
  | [], gs, os, qs, h, _ => by cases os <;> rfl
  | a :: fs, gs, [], qs, h, _ => rfl
  | a :: fs, gs, o :: os, qs, h, hd => by
    rw [updH, updH, updH_comm fs gs os qs _ (fun x hx => hd x (List.mem_cons_of_mem _ hx))]
    congr 1
    have ha : a ∉ gs := hd a List.mem_cons_self
    have one : ∀ (gs : List Nat) (qs h : List AObj), a ∉ gs → updH (h.set a o) gs qs = (updH h gs qs).set a o := by
      intro gs
      induction gs with
      | nil => intro qs h _; cases qs <;> rfl
      | cons b gs ih =>
        intro qs h hn
        simp only [List.mem_cons, not_or] at hn
        cases qs with
        | nil => rfl
        | cons q qs =>
          rw [updH, updH, List.set_comm _ _ hn.1]
          exact ih qs _ hn.2
    exact one gs qs h ha

section
variable {P : Program} {E : Env} {N : Nat} {ops : Array Oper}

theorem OpR_congr {o : Oper} {ρ ρ' : Operand → AV} {h : List AObj} {R : AV → List AObj → Prop} (hc : ∀ x, x ∈ o.op.operands.toList → ρ' x = ρ x) (H : OpR P E o ρ h R) : OpR P E o ρ' h R :=
  fun G a w hw hr => H G a w hw fun x hx => by rw [← hc x hx]; exact hr x hx

/-- A step with one outcome, over every heap that agrees in what it reads. -/
def SI (P : Program) (E : Env) (N : Nat) (ops : Array Oper) (rd wr : Nat → List Nat) (i : Nat) (o : Oper) (τ : Nat → AV) (h : List AObj) (v : AV) (os : List AObj) : Prop :=
  ∀ k : List AObj, k.length = h.length → (∀ j, j ∈ rd i → k[j]? = h[j]?) → StepR P E N ops o τ k (fun a b => a = v ∧ b = updH k (wr i) os)

theorem StepR_congr {o : Oper} {τ τ' : Nat → AV} {h : List AObj} {R : AV → List AObj → Prop} (hc : ∀ d, d ∈ o.looksAt ops → τ' d = τ d) (H : StepR P E N ops o τ h R) : StepR P E N ops o τ' h R := by
  obtain ⟨h1, h2⟩ := H
  have hop : ∀ x, x ∈ o.op.operands.toList → ev τ' x = ev τ x := by
    intro x hx
    cases x with
    | tmp t =>
      refine hc t ?_
      unfold Oper.looksAt
      exact List.mem_append.2 (.inl (List.mem_filterMap.2 ⟨.tmp t, hx, rfl⟩))
    | _ => rfl
  refine ⟨h1, ?_⟩
  cases hg : o.guard with
  | none => rw [hg] at h2; exact OpR_congr hop h2
  | some g =>
    obtain ⟨j, want⟩ := g
    rw [hg] at h2
    obtain ⟨d, ex, k1, k2, k3, k4, k5⟩ := h2
    have hd : τ' d = τ d := hc d (by
      unfold Oper.looksAt
      rw [hg]
      exact List.mem_append.2 (.inr (by simp [k1])))
    exact ⟨d, ex, k1, k2, by rw [hd]; exact k3, fun hb => OpR_congr hop (k4 hb), k5⟩


theorem SI.congr {rd wr : Nat → List Nat} {i : Nat} {o : Oper} {τ τ' : Nat → AV} {h h' os : List AObj} {v : AV} (hc : ∀ d, d ∈ o.looksAt ops → τ' d = τ d) (hl : h'.length = h.length) (hh : ∀ j, j ∈ rd i → h'[j]? = h[j]?)
    (H : SI P E N ops rd wr i o τ h v os) : SI P E N ops rd wr i o τ' h' v os :=
  fun k h1 h2 => StepR_congr hc (H k (h1.trans hl) fun j hj => (h2 j hj).trans (hh j hj))

theorem putA_other {τ : Nat → AV} {dst : Option Tmp} {v : AV} {d : Nat} (h : ∀ e, dst = some e → e ≠ d) : putA τ dst v d = τ d := by
  cases dst with
  | none => rfl
  | some e =>
    have := h e rfl
    show (bif Nat.beq d e then v else τ d) = τ d
    have hb : Nat.beq d e = false := by
      cases hb : Nat.beq d e with
      | false => rfl
      | true => exact absurd (Nat.eq_of_beq_eq_true hb).symm this
    rw [hb]; rfl

theorem putA_comm {τ : Nat → AV} {x y : Option Tmp} {v u : AV} (h : ∀ d, x = some d → y ≠ some d) : putA (putA τ x v) y u = putA (putA τ y u) x v := by
  funext t
  cases x with
  | none => rfl
  | some a =>
    cases y with
    | none => rfl
    | some b =>
      have hab : a ≠ b := fun hh => h a rfl (by rw [hh])
      show (bif Nat.beq t b then u else (bif Nat.beq t a then v else τ t)) = (bif Nat.beq t a then v else (bif Nat.beq t b then u else τ t))
      cases hb : Nat.beq t b with
      | false => rfl
      | true =>
        cases ha : Nat.beq t a with
        | false => rfl
        | true => exact absurd ((Nat.eq_of_beq_eq_true ha).symm.trans (Nat.eq_of_beq_eq_true hb)) hab

def stepI (P : Program) (E : Env) (N : Nat) (ops : Array Oper) (rd wr : Nat → List Nat) (i : Nat) (K : (Nat → AV) → List AObj → Prop) (τ : Nat → AV) (h : List AObj) : Prop :=
  match ops[i]? with
  | none => K τ h
  | some o => ∃ v os, SI P E N ops rd wr i o τ h v os ∧ K (putA τ o.dst v) (updH h (wr i) os)

def anyA (P : Program) (E : Env) (N : Nat) (ops : Array Oper) (rd wr : Nat → List Nat) (Q : (Nat → AV) → List AObj → Prop) : Nat → Array Bool → (Nat → AV) → List AObj → Prop
  | 0, listed, τ, h => Region.ready .any ops listed = [] ∧ Q τ h
  | fuel + 1, listed, τ, h => (Region.ready .any ops listed = [] → Q τ h) ∧ ∀ i, i ∈ Region.ready .any ops listed → stepI P E N ops rd wr i (anyA P E N ops rd wr Q fuel (listed.setIfInBounds i true)) τ h

theorem anyA_sound {rd wr : Nat → List Nat} {Q : Exit → (Nat → AV) → List AObj → Prop} : ∀ (fuel : Nat) (listed : Array Bool) (τ : Nat → AV) (h : List AObj) (a : Act) (w : World), anyA P E N ops rd wr (Q .normal) fuel listed τ h → Rel E N τ h a w →
    wpAny P .any ops (fun ex a' w' => ∃ τ' h', Q ex τ' h' ∧ Rel E N τ' h' a' w') fuel listed a w
  | 0, _, τ, h, _, _, H, hr => ⟨H.1, τ, h, H.2, hr⟩
  | fuel + 1, listed, τ, h, a, w, H, hr => by
    refine ⟨fun h0 => ⟨τ, h, H.1 h0, hr⟩, fun i hi => ?_⟩
    have hs := H.2 i hi
    unfold stepI at hs
    split at hs
    · rename_i ho
      unfold wpOp
      simp only [ho]
      exact anyA_sound fuel _ τ h a w hs hr
    · rename_i o ho
      obtain ⟨v, os, hsi, hk⟩ := hs
      exact step_sound ho (hsi h rfl fun _ _ => rfl) hr fun v' h'' a' w' ⟨h1, h2⟩ hrel => by
        subst h1; subst h2
        exact anyA_sound fuel _ _ _ a' w' hk hrel

def meets (a b : List Nat) : Bool := a.any fun x => b.contains x
def conf (rd wr : Nat → List Nat) (i j : Nat) : Bool := meets (wr i) (rd j) || meets (wr i) (wr j) || meets (wr j) (rd i)

theorem meets_not {a b : List Nat} (h : meets a b = false) : ∀ x, x ∈ a → x ∉ b := by
  intro x hx hb
  unfold meets at h
  rw [List.any_eq_false] at h
  exact h x hx (by simpa using hb)

theorem anyA_first {rd wr : Nat → List Nat} {Q : (Nat → AV) → List AObj → Prop} {i : Nat} {oi : Oper} {v : AV} {osi : List AObj} (hi : ops[i]? = some oi) : ∀ (fuel : Nat) (listed : Array Bool) (τ : Nat → AV) (h : List AObj),
    (∀ j oj, ops[j]? = some oj → j ≠ i → listed.getD j true = false → (∀ e ∈ oj.after, Region.binds .any e = true → e.on ≠ i) → oi.apart ops oj = true ∧ conf rd wr i j = false) →
    i ∈ Region.ready .any ops listed → SI P E N ops rd wr i oi τ h v osi → anyA P E N ops rd wr Q fuel (listed.setIfInBounds i true) (putA τ oi.dst v) (updH h (wr i) osi) → anyA P E N ops rd wr Q (fuel + 1) listed τ h := by
  intro fuel
  have own : ∀ (listed : Array Bool) (τ : Nat → AV) (h : List AObj) (K : (Nat → AV) → List AObj → Prop), SI P E N ops rd wr i oi τ h v osi → K (putA τ oi.dst v) (updH h (wr i) osi) → stepI P E N ops rd wr i K τ h := by
    intro listed τ h K hs hk
    unfold stepI
    simp only [hi]
    exact ⟨v, osi, hs, hk⟩
  induction fuel with
  | zero =>
    intro listed τ h _ hr hy H
    refine ⟨fun h0 => (by rw [h0] at hr; cases hr), fun j hj => ?_⟩
    by_cases hji : j = i
    · subst hji; exact own listed τ h _ hy H
    · have := ready_mono hj hji
      rw [H.1] at this
      cases this
  | succ fuel ih =>
    intro listed τ h hfree hr hy H
    refine ⟨fun h0 => (by rw [h0] at hr; cases hr), fun j hj => ?_⟩
    by_cases hji : j = i
    · subst hji; exact own listed τ h _ hy H
    · have hs := H.2 j (ready_mono hj hji)
      obtain ⟨hjun, oj, hoj, hall⟩ := mem_ready.1 hj
      have hnot : ∀ e ∈ oj.after, Region.binds .any e = true → e.on ≠ i := fun e he hb heq => by
        have h1 := hall e he hb
        have h0 := (mem_ready.1 hr).1
        rw [heq] at h1
        rcases Nat.lt_or_ge i listed.size with h' | h'
        · simp [h'] at h0 h1; rw [h0] at h1; cases h1
        · simp [Array.getElem?_eq_none h'] at h1
      obtain ⟨hap, hcf⟩ := hfree j oj hoj hji hjun hnot
      obtain ⟨a1, a2, a3⟩ := Oper.apart_spec hap
      simp only [conf, Bool.or_eq_false_iff] at hcf
      obtain ⟨⟨f1, f2⟩, f3⟩ := hcf
      have f1 := meets_not f1
      have f2 := meets_not f2
      have f3 := meets_not f3
      unfold stepI at hs ⊢
      simp only [hoj] at hs ⊢
      obtain ⟨vj, osj, hsj, hk⟩ := hs
      have cj : ∀ d, d ∈ oj.looksAt ops → τ d = putA τ oi.dst v d := fun d hd => (putA_other fun e he hh => a1 e he (hh ▸ hd)).symm
      have ci : ∀ u d, d ∈ oi.looksAt ops → putA τ oj.dst u d = τ d := fun u d hd => putA_other fun e he hh => a3 e he (hh ▸ hd)
      have hfree' : ∀ k ok, ops[k]? = some ok → k ≠ i → (listed.setIfInBounds j true).getD k true = false → (∀ e ∈ ok.after, Region.binds .any e = true → e.on ≠ i) → oi.apart ops ok = true ∧ conf rd wr i k = false := fun k ok hk' hki hun hno => by
        refine hfree k ok hk' hki ?_ hno
        by_cases hjk : j = k
        · subst hjk; exact hjun
        · rw [getD_set_ne true hjk] at hun; exact hun
      refine ⟨vj, osj, hsj.congr cj (by rw [updH_length]) (fun x hx => (updH_other _ _ _ _ (fun hw => f1 x hw hx)).symm), ih _ _ _ hfree' (ready_mono hr (Ne.symm hji)) (hy.congr (ci vj) (by rw [updH_length]) (fun x hx => updH_other _ _ _ _ (fun hw => f3 x hw hx))) ?_⟩
      rw [Array.setIfInBounds_comm _ _ hji, ← putA_comm a2, ← updH_comm _ _ _ _ _ f2]
      exact hk

/-! the lexical walk -/

def AWd (P : Program) (E : Env) (N : Nat) (ops : List Oper) (rd wr : Nat → List Nat) (Q : (Nat → AV) → List AObj → Prop) : List Oper → Nat → (Nat → AV) → List AObj → Prop
  | [], _, τ, h => Q τ h
  | o :: rest, i, τ, h => ∃ v os, SI P E N ops.toArray rd wr i o τ h v os ∧ AWd P E N ops rd wr Q rest (i + 1) (putA τ o.dst v) (updH h (wr i) os)

def freeD (ops : Array Oper) (rd wr : Nat → List Nat) (listed : Array Bool) (i : Nat) : Bool :=
  match ops[i]? with
  | none => false
  | some oi => (List.range ops.size).all fun j => j == i || listed.getD j true || match ops[j]? with
      | some oj => oj.after.any (fun e => Region.binds .any e && e.on == i) || (oi.apart ops oj && !conf rd wr i j)
      | none => true

theorem freeD_spec {rd wr : Nat → List Nat} {i : Nat} {oi : Oper} {listed : Array Bool} (hi : ops[i]? = some oi) (h : freeD ops rd wr listed i = true) (j : Nat) (oj : Oper)
    (hj : ops[j]? = some oj) (hne : j ≠ i) (hun : listed.getD j true = false) (hno : ∀ e ∈ oj.after, Region.binds .any e = true → e.on ≠ i) : oi.apart ops oj = true ∧ conf rd wr i j = false := by
  simp only [freeD, hi, List.all_eq_true, List.mem_range] at h
  have h1 := h j (Array.getElem?_eq_some_iff.1 hj).1
  simp only [hj, Bool.or_eq_true, beq_iff_eq, hne, false_or, hun, Bool.false_eq_true] at h1
  rcases h1 with h1 | h1
  · obtain ⟨e, he, hb⟩ := Array.any_eq_true'.1 h1
    simp only [Bool.and_eq_true, beq_iff_eq] at hb
    exact absurd hb.2 (hno e he hb.1)
  · simpa using h1

def lexD (ops : Array Oper) (rd wr : Nat → List Nat) : Nat → Nat → Array Bool → Bool
  | 0, _, listed => (Region.ready .any ops listed).isEmpty
  | fuel + 1, k, listed => (Region.ready .any ops listed).contains k && freeD ops rd wr listed k && lexD ops rd wr fuel (k + 1) (listed.setIfInBounds k true)

theorem AWd_any {rd wr : Nat → List Nat} {ops : List Oper} {Q : (Nat → AV) → List AObj → Prop} : ∀ (l : List Oper) (k : Nat) (listed : Array Bool) (τ : Nat → AV) (h : List AObj), (∀ j, l[j]? = ops[k + j]?) →
    lexD ops.toArray rd wr l.length k listed = true → AWd P E N ops rd wr Q l k τ h → anyA P E N ops.toArray rd wr Q l.length listed τ h
  | [], _, _, _, _, _, hB, H => ⟨by simpa [lexD] using hB, H⟩
  | o :: l, k, listed, τ, h, hl, hB, H => by
    have h0 : ops.toArray[k]? = some o := by simpa using (hl 0).symm
    simp only [List.length_cons, lexD, Bool.and_eq_true] at hB
    obtain ⟨⟨hr, hf⟩, hB'⟩ := hB
    obtain ⟨v, os, hs, hk⟩ := H
    exact anyA_first h0 l.length listed τ h (freeD_spec h0 hf) (by simpa using hr) hs
      (AWd_any l (k + 1) _ _ _ (fun j => by have := hl (j + 1); simpa [Nat.add_assoc, Nat.add_comm 1 j] using this) hB' hk)

theorem Rel.drew {τ : Nat → AV} {h : List AObj} {a : Act} {w : World} (hr : Rel E N τ h a w) : Rel E N τ h a { w with drawn := w.drawn + 1 } := by
  obtain ⟨h1, h2, G, hw, h3⟩ := hr
  refine ⟨h1, h2, G, ⟨hw.le, hw.imm, hw.immNew, hw.keep, hw.size, hw.os, hw.tape, hw.output, hw.own, hw.fresh, fun i ob hi => ?_⟩, h3⟩
  exact (hw.obj i ob hi).keep (.refl G) (fun b _ => ⟨rfl, fun _ _ => rfl⟩) (fun _ hn => hn) (fun hn => hn)

theorem AW_drawG {id : Nat} (rd wr : Nat → List Nat) {ops : List Oper} {Q : Exit → (Nat → AV) → List AObj → Prop} {τ : Nat → AV} {h : List AObj} (hm : P.follows .mixedOrders = true)
    (hB : lexD ops.toArray rd wr ops.length 0 (Array.replicate ops.length false) = true) (H : AWd P E N ops rd wr (Q .normal) ops 0 τ h) : AW P E N (.region id ops.toArray true) Q τ h := by
  intro a w hr
  refine wp_region_any hm ?_
  have := AWd_any (P := P) (E := E) (N := N) ops 0 _ τ h (fun j => by simp) hB H
  have := anyA_sound (Q := Q) _ _ _ _ a _ this hr.drew
  simpa using this

/-- A region that only reads. -/
theorem AW_draw {id : Nat} {ops : List Oper} {Q : Exit → (Nat → AV) → List AObj → Prop} {τ : Nat → AV} {h : List AObj} (hm : P.follows .mixedOrders = true)
    (hB : lexD ops.toArray (fun _ => List.range h.length) (fun _ => []) ops.length 0 (Array.replicate ops.length false) = true) (H : AWd P E N ops (fun _ => List.range h.length) (fun _ => []) (Q .normal) ops 0 τ h) : AW P E N (.region id ops.toArray true) Q τ h :=
  AW_drawG _ _ hm hB H

/-! steps of the lexical walk -/
theorem AWd_nil {rd wr : Nat → List Nat} {ops : List Oper} {Q : (Nat → AV) → List AObj → Prop} {i : Nat} {τ : Nat → AV} {h : List AObj} (hq : Q τ h) : AWd P E N ops rd wr Q [] i τ h := hq

theorem same_heap {h k : List AObj} (hl : k.length = h.length) (hh : ∀ j, j ∈ List.range h.length → k[j]? = h[j]?) : k = h := by
  apply List.ext_getElem?
  intro j
  by_cases hj : j < h.length
  · exact hh j (List.mem_range.2 hj)
  · rw [List.getElem?_eq_none (by omega), List.getElem?_eq_none (by omega)]

theorem updH_nil (k os : List AObj) : updH k [] os = k := by cases os <;> rfl

/-- A step that reads what it likes and writes nothing, in a region that writes nothing. -/
theorem AWd_step {T : Tr} (hT : TOk P T) {n : Nat} {ops : List Oper} {Q : (Nat → AV) → List AObj → Prop} {i d : Nat} {op : Op} {ty : TypeId} {pos : String} {after : Array Edge} {rest : List Oper}
    {l : List (Nat × AV)} {h : List AObj} {v : AV} {C : Prop} (hs : astep T op (ev (look l)) h = some (v, h, C)) (hd : Nat.blt d N = true) (hn : h.length = n) (hC : C) (hk : AWd P E N ops (fun _ => List.range n) (fun _ => []) Q rest (i + 1) (look ((d, v) :: l)) h) :
    AWd P E N ops (fun _ => List.range n) (fun _ => []) Q (⟨some d, op, ty, pos, after, none⟩ :: rest) i (look l) h := by
  subst hn
  refine ⟨v, [], fun k h1 h2 => ?_, hk⟩
  have : k = h := same_heap h1 h2
  subst this
  exact ⟨hd, OpR_of_S (astep_ok hT hs hC)⟩

theorem AWd_gstep {T : Tr} (hT : TOk P T) {n : Nat} {ops : List Oper} {Q : (Nat → AV) → List AObj → Prop} {i d : Nat} {op : Op} {ty : TypeId} {pos : String} {after : Array Edge} {j : Nat} {want : Bool} {rest : List Oper}
    {l : List (Nat × AV)} {h : List AObj} {v : AV} {C : Prop} {gd : Nat} {ex : Bool} (hg : gslot ops l j want = some (gd, ex)) (hs : astep T op (evG (look l) op) h = some (v, h, C)) (hd : Nat.blt d N = true) (hgd : Nat.blt gd N = true) (hn : h.length = n)
    (hC : ex = true → gAll (look l) (gOps op) ∧ C) (hk : AWd P E N ops (fun _ => List.range n) (fun _ => []) Q rest (i + 1) (look ((d, .gd ex v) :: l)) h) :
    AWd P E N ops (fun _ => List.range n) (fun _ => []) Q (⟨some d, op, ty, pos, after, some (j, want)⟩ :: rest) i (look l) h := by
  subst hn
  refine ⟨_, [], fun k h1 h2 => ?_, hk⟩
  have : k = h := same_heap h1 h2
  subst this
  exact guard_ok rfl hg hd hgd (fun hb => ⟨(hC hb).1, astepU_ok (o := ⟨some d, op, ty, pos, after, some (j, want)⟩) hT hs (hC hb).2⟩)

/-- A step given by a contract, in a region that writes nothing. -/
theorem AWd_op {n : Nat} {ops : List Oper} {Q : (Nat → AV) → List AObj → Prop} {i d : Nat} {op : Op} {ty : TypeId} {pos : String} {after : Array Edge} {rest : List Oper}
    {l : List (Nat × AV)} {h : List AObj} {v : AV} (hs : OpS P E ⟨some d, op, ty, pos, after, none⟩ (ev (look l)) h v h) (hd : Nat.blt d N = true) (hn : h.length = n)
    (hk : AWd P E N ops (fun _ => List.range n) (fun _ => []) Q rest (i + 1) (look ((d, v) :: l)) h) : AWd P E N ops (fun _ => List.range n) (fun _ => []) Q (⟨some d, op, ty, pos, after, none⟩ :: rest) i (look l) h := by
  subst hn
  refine ⟨v, [], fun k h1 h2 => ?_, hk⟩
  have : k = h := same_heap h1 h2
  subst this
  exact ⟨hd, OpR_of_S hs⟩

theorem AWd_gop {n : Nat} {ops : List Oper} {Q : (Nat → AV) → List AObj → Prop} {i d : Nat} {op : Op} {ty : TypeId} {pos : String} {after : Array Edge} {j : Nat} {want : Bool} {rest : List Oper}
    {l : List (Nat × AV)} {h : List AObj} {v : AV} {gd : Nat} {ex : Bool} (hg : gslot ops l j want = some (gd, ex)) (hd : Nat.blt d N = true) (hgd : Nat.blt gd N = true) (hn : h.length = n)
    (hC : ex = true → gAll (look l) (gOps op) ∧ OpS P E ⟨some d, op, ty, pos, after, some (j, want)⟩ (evG (look l) op) h v h) (hk : AWd P E N ops (fun _ => List.range n) (fun _ => []) Q rest (i + 1) (look ((d, .gd ex v) :: l)) h) :
    AWd P E N ops (fun _ => List.range n) (fun _ => []) Q (⟨some d, op, ty, pos, after, some (j, want)⟩ :: rest) i (look l) h := by
  subst hn
  refine ⟨_, [], fun k h1 h2 => ?_, hk⟩
  have : k = h := same_heap h1 h2
  subst this
  exact guard_ok rfl hg hd hgd hC

/-- In a region that reads and writes objects one by one: a step that asks the heap nothing. -/
theorem AWg_pure {T : Tr} (hT : TOk P T) {rd wr : Nat → List Nat} {ops : List Oper} {Q : (Nat → AV) → List AObj → Prop} {i : Nat} {dst : Option Tmp} {op : Op} {ty : TypeId} {pos : String} {after : Array Edge} {rest : List Oper}
    {l : List (Nat × AV)} {h : List AObj} {v : AV} {C : Prop} (hs : ∀ k, astep T op (ev (look l)) k = some (v, k, C)) (hd : dstOk N ⟨dst, op, ty, pos, after, none⟩ = true) (hw : wr i = []) (hC : C) (hk : AWd P E N ops rd wr Q rest (i + 1) (look (putL l dst v)) h) :
    AWd P E N ops rd wr Q (⟨dst, op, ty, pos, after, none⟩ :: rest) i (look l) h := by
  refine ⟨v, [], fun k h1 h2 => ?_, by rw [hw, updH_nil, ← look_putL]; exact hk⟩
  rw [hw]
  simp only [updH_nil]
  exact ⟨hd, OpR_of_S (astep_ok hT (hs k) hC)⟩

/-- A store's new cells, laid open. -/
def storeF (T : Tr) (t : Nat) (cells : List AV) (off : Nat) (x : AV) : Option (List AV) := forceV x fun x => match storeA T t cells off x with
  | some c => forceS c some
  | none => none
theorem storeF_eq (T : Tr) (t : Nat) (cells : List AV) (off : Nat) (x : AV) : storeF T t cells off x = storeA T t cells off x := by
  unfold storeF; rw [forceV_eq]; split
  · rename_i h; rw [forceS_eq, h]
  · rename_i h; rw [h]
def loadF (T : Tr) (t : Nat) (cells : List AV) (off : Nat) : Option AV := match loadA T t cells off with
  | some v => forceV v some
  | none => none
theorem loadF_eq (T : Tr) (t : Nat) (cells : List AV) (off : Nat) : loadF T t cells off = loadA T t cells off := by
  unfold loadF; split
  · rename_i h; rw [forceV_eq, h]
  · rename_i h; rw [h]

/-- A load from one object. -/
theorem AWg_load {T : Tr} (hT : TOk P T) {rd wr : Nat → List Nat} {ops : List Oper} {Q : (Nat → AV) → List AObj → Prop} {i d t j off : Nat} {x : Operand} {ty : TypeId} {pos : String} {after : Array Edge} {rest : List Oper} {cells : List AV}
    {l : List (Nat × AV)} {h : List AObj} {v : AV} (hx : ev (look l) x = .ptr j off) (hj : h[j]? = some (.row cells)) (hv : loadF T t cells off = some v) (hd : Nat.blt d N = true) (hr : j ∈ rd i) (hw : wr i = [])
    (hk : AWd P E N ops rd wr Q rest (i + 1) (look ((d, v) :: l)) h) : AWd P E N ops rd wr Q (⟨some d, .load t x, ty, pos, after, none⟩ :: rest) i (look l) h := by
  refine ⟨v, [], fun k h1 h2 => ?_, by rw [hw, updH_nil]; exact hk⟩
  rw [hw]
  simp only [updH_nil]
  rw [loadF_eq] at hv
  exact ⟨hd, OpR_of_S (load_ok hT rfl hx ((h2 j hr).trans hj) hv)⟩

/-- A store into one object. -/
theorem AWg_store {T : Tr} (hT : TOk P T) {rd wr : Nat → List Nat} {ops : List Oper} {Q : (Nat → AV) → List AObj → Prop} {i t j off : Nat} {x y : Operand} {ty : TypeId} {pos : String} {after : Array Edge} {rest : List Oper} {cells cells' : List AV}
    {l : List (Nat × AV)} {h : List AObj} (hx : ev (look l) x = .ptr j off) (hj : h[j]? = some (.row cells)) (hv : storeF T t cells off (ev (look l) y) = some cells') (hr : j ∈ rd i) (hw : wr i = [j])
    (hk : AWd P E N ops rd wr Q rest (i + 1) (look l) (h.set j (.row cells'))) : AWd P E N ops rd wr Q (⟨none, .store t x y, ty, pos, after, none⟩ :: rest) i (look l) h := by
  refine ⟨.any, [.row cells'], fun k h1 h2 => ?_, by rw [hw]; exact hk⟩
  rw [hw]
  rw [storeF_eq] at hv
  exact ⟨rfl, OpR_of_S (store_ok hT rfl hx ((h2 j hr).trans hj) hv)⟩

/-- A step by a contract that holds over every heap that agrees in what is read. -/
theorem AWg_op {rd wr : Nat → List Nat} {ops : List Oper} {Q : (Nat → AV) → List AObj → Prop} {i : Nat} {dst : Option Tmp} {op : Op} {ty : TypeId} {pos : String} {after : Array Edge} {rest : List Oper}
    {l : List (Nat × AV)} {h os : List AObj} {v : AV} (hs : ∀ k : List AObj, k.length = h.length → (∀ j, j ∈ rd i → k[j]? = h[j]?) → OpS P E ⟨dst, op, ty, pos, after, none⟩ (ev (look l)) k v (updH k (wr i) os)) (hd : dstOk N ⟨dst, op, ty, pos, after, none⟩ = true)
    (hk : AWd P E N ops rd wr Q rest (i + 1) (look (putL l dst v)) (updH h (wr i) os)) : AWd P E N ops rd wr Q (⟨dst, op, ty, pos, after, none⟩ :: rest) i (look l) h :=
  ⟨v, os, fun k h1 h2 => ⟨hd, OpR_of_S (hs k h1 h2)⟩, by rw [← look_putL]; exact hk⟩
end
end Tdoc
