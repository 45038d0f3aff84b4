/- All operations without calls in two functions; regions, in the text's order and in any order. No program is named here. -/
import Derived.Test.YtkkfcpohiofinaaDoorA8
set_option linter.unusedSimpArgs false
set_option linter.unusedVariables false
namespace Tdoc
open Go

/-- The value's head and its list's spine are laid open. -/
def forceS {α β : Type} : List α → (List α → β) → β
  | [], k => k []
  | a :: l, k => forceS l fun r => k (a :: r)
theorem forceS_eq {α β : Type} : ∀ (l : List α) (k : List α → β), forceS l k = k l
  | [], k => rfl
  | a :: l, k => by simp [forceS, forceS_eq l]
def forceV {β : Type} (v : AV) (k : AV → β) : β := match v with
  | .d x => k (.d x)
  | .sl a b c => k (.sl a b c)
  | .nils => k .nils
  | .ptr i off => k (.ptr i off)
  | .iptr cs => k (.iptr cs)
  | .nilp => k .nilp
  | .row a b c d => k (.row a b c d)
  | .bm a b => k (.bm a b)
  | .bp a b c => k (.bp a b c)
  | .fn f a b => k (.fn f a b)
  | .nilf => k .nilf
  | .agg cs => forceS cs fun c => k (.agg c)
  | .tup vs => k (.tup vs)
  | .gd b v => k (.gd b v)
  | .any => k .any
theorem forceV_eq {β : Type} (v : AV) (k : AV → β) : forceV v k = k v := by cases v <;> simp [forceV, forceS_eq]

def forceL {β : Type} : List AV → (List AV → β) → β
  | [], k => k []
  | a :: l, k => forceV a fun a => forceL l fun r => k (a :: r)
theorem forceL_eq {β : Type} : ∀ (l : List AV) (k : List AV → β), forceL l k = k l
  | [], k => rfl
  | a :: l, k => by simp [forceL, forceV_eq, forceL_eq l]
def forceP {β : Type} : List (Nat × AV) → (List (Nat × AV) → β) → β
  | [], k => k []
  | (i, v) :: l, k => forceV v fun v => forceP l fun r => k ((i, v) :: r)
theorem forceP_eq {β : Type} : ∀ (l : List (Nat × AV)) (k : List (Nat × AV) → β), forceP l k = k l
  | [], k => rfl
  | (i, v) :: l, k => by simp [forceP, forceV_eq, forceP_eq l]

def wrapP (x : Option AV) : Option (AV × Prop) := match x with
  | some v => some (v, True)
  | none => none

/-- The operations that neither read nor change the abstract heap. -/
def aopP (T : Tr) (op : Op) (ρ : Operand → AV) : Option (AV × Prop) :=
  match op with
  | .move x => some (ρ x, True)
  | .assign x => some (ρ x, True)
  | .pick c a b => match b with
    | .const (.bool false) => pickAnd (ρ c) (ρ a)
    | b => match a with
      | .const (.bool true) => pickOr (ρ c) (ρ b)
      | _ => none
  | .build t parts => forceP (parts.toList.map fun x => (x.1, ρ x.2)) fun l => wrapP (buildA T t l)
  | .nilCheck x => match nilOk (ρ x) with
    | true => some (ρ x, True)
    | false => none
  | .binOp op t x y _ => binA T op t (ρ x) (ρ y)
  | .unOp op _ x => wrapP (unA op (ρ x))
  | .convert s t x => convA T s t (ρ x)
  | .makeFunc f first cap => forceL (first.toList.map ρ) fun a => forceL (cap.toList.map ρ) fun b => some (.fn f a b, True)
  | .fieldAddr t x f => wrapP (faddr T t f (ρ x))
  | .field t x f => wrapP (partA T t f (ρ x))
  | .index t x ix => indexStr T t (ρ x) (ρ ix)
  | .slice t x lo hi mx => match mx with
    | none => match optInt ρ lo, optInt ρ hi with
      | some l, some h => sliceA T t (ρ x) l h
      | _, _ => none
    | some _ => none
  | .extract x n => wrapP (extractA n (ρ x))
  | .load t x => match ρ x with
    | .iptr cs => wrapP (loadI T t cs)
    | _ => none
  | .call c => match c with
    | ⟨.builtin .len, ⟨[x]⟩, ⟨[t]⟩⟩ => wrapP (lenA T t (ρ x))
    | _ => none
  | _ => none

/-- Those that read or change it. -/
def aopH (T : Tr) (op : Op) (ρ : Operand → AV) (h : List AObj) : Option (AV × List AObj) :=
  match op with
  | .alloc t => match T.find t with
    | some i => some (.ptr h.length 0, h ++ [.row i.zero])
    | none => none
  | .box _ x => forceV (ρ x) fun x => match cellsA x with
    | some cs => forceS cs fun cs => some (.ptr h.length 0, h ++ [.row cs])
    | none => none
  | .load t x => match ρ x with
    | .ptr i off => match h[i]? with
      | some (.row cells) => match loadA T t cells off with
        | some v => some (v, h)
        | none => none
      | _ => none
    | _ => none
  | .store t x y => match ρ x with
    | .ptr i off => match h[i]? with
      | some (.row cells) => forceV (ρ y) fun y => match storeA T t cells off y with
        | some cells' => forceS cells' fun cells' => some (.any, h.set i (.row cells'))
        | none => none
      | _ => none
    | _ => none
  | .buildSlice t len parts => match buildSlA T t len (parts.toList.map fun x => (x.1, ρ x.2)) with
    | some v => some (v, h)
    | none => none
  | _ => none

def dep (op : Op) : Bool := match op with
  | .move _ | .assign _ | .pick _ _ _ | .build _ _ | .nilCheck _ | .binOp _ _ _ _ _ | .unOp _ _ _ | .convert _ _ _ | .makeFunc _ _ _ | .fieldAddr _ _ _ | .field _ _ _ | .index _ _ _
  | .slice _ _ _ _ _ | .extract _ _ => false
  | .call ⟨.builtin .len, _, _⟩ => false
  | _ => true

section
variable {P : Program} {E : Env} {T : Tr} {o : Oper} {ρ : Operand → AV} {h h' : List AObj} {v : AV}

theorem wrapP_some {x : Option AV} {C : Prop} (h : wrapP x = some (v, C)) : x = some v := by
  unfold wrapP at h; split at h
  · cases h; rfl
  · cases h

theorem aopP_ok (hT : TOk P T) (hρ : ∀ z, ρ (.const z) = ofVal z) {C : Prop} (h : aopP T o.op ρ = some (v, C)) (hC : C) : OpP P o ρ v := by
  obtain ⟨dst, op, ty, pos, after, guard⟩ := o
  simp only at h
  unfold aopP at h
  split at h
  · cases h; exact move_ok (.inl rfl)
  · cases h; exact move_ok (.inr rfl)
  · split at h
    · exact pickAnd_ok hρ rfl h hC
    · split at h
      · exact pickOr_ok hρ rfl h hC
      · cases h
  · rw [forceP_eq] at h; exact build_ok hT rfl (wrapP_some h)
  · split at h
    · rename_i hn; cases h; exact nilCheck_ok rfl hn
    · cases h
  · exact binA_ok hT rfl h hC
  · exact unA_ok rfl (wrapP_some h)
  · exact convA_ok hT rfl h hC
  · rw [forceL_eq, forceL_eq] at h; cases h; exact makeFunc_ok rfl
  · exact fieldAddr_ok hT rfl (wrapP_some h)
  · exact field_ok hT rfl (wrapP_some h)
  · exact indexStr_ok hT rfl h hC
  · split at h
    · split at h
      · rename_i l r hl hr; exact sliceA_ok hT rfl hl hr h hC
      · cases h
    · cases h
  · exact extractA_ok rfl (wrapP_some h)
  · split at h
    · rename_i hx; exact loadI_ok hT rfl hx (wrapP_some h)
    · cases h
  · split at h
    · exact lenA_ok hT rfl (wrapP_some h)
    · cases h
  · cases h

theorem aopH_ok (hT : TOk P T) (hh : aopH T o.op ρ h = some (v, h')) : OpS P E o ρ h v h' := by
  obtain ⟨dst, op, ty, pos, after, guard⟩ := o
  simp only at hh
  unfold aopH at hh
  split at hh
  · split at hh
    · rename_i hf; cases hh; exact alloc_ok hT rfl hf
    · cases hh
  · rw [forceV_eq] at hh
    split at hh
    · rename_i hx; rw [forceS_eq] at hh; cases hh; exact box_ok rfl hx
    · cases hh
  · split at hh
    · rename_i hx
      split at hh
      · rename_i hi
        split at hh
        · rename_i hv; cases hh; exact load_ok hT rfl hx hi hv
        · cases hh
      · cases hh
    · cases hh
  · split at hh
    · rename_i hx
      split at hh
      · rename_i hi
        rw [forceV_eq] at hh
        split at hh
        · rename_i hv; rw [forceS_eq] at hh; cases hh; exact store_ok hT rfl hx hi hv
        · cases hh
      · cases hh
    · cases hh
  · split at hh
    · rename_i hv; cases hh; exact buildSl_ok hT rfl hv
    · cases hh
  · cases hh
end

/-! ### one step -/

def putA (τ : Nat → AV) (dst : Option Tmp) (v : AV) : Nat → AV := match dst with
  | some d => fun t => bif Nat.beq t d then v else τ t
  | none => τ

/-- Slots' values as a list. -/
def look : List (Nat × AV) → Nat → AV
  | [], _ => .any
  | (d, v) :: r, t => bif Nat.beq t d then v else look r t

def dstOk (N : Nat) (o : Oper) : Bool := match o.dst with
  | some d => Nat.blt d N
  | none => true

/-- The results of an operation: a value and a heap. -/
def OpR (P : Program) (E : Env) (o : Oper) (ρ : Operand → AV) (h : List AObj) (R : AV → List AObj → Prop) : Prop :=
  ∀ (G : Gh) (a : Act) (w : World), WRel E G h w → (∀ x, x ∈ o.op.operands.toList → RepA G (ρ x) (a.eval x)) →
    o.wp P a w (fun a' w' => ∃ u G' v h', R v h' ∧ a' = a.put o.dst u ∧ G.le G' ∧ WRel E G' h' w' ∧ RepA G' v u) (fun _ _ _ => False)

theorem wp_mono2 {P : Program} {o : Oper} {a : Act} {w : World} {K K' : Act → World → Prop} {Q : Exit → Act → World → Prop} (h : ∀ a w, K a w → K' a w) (hh : o.wp P a w K (fun _ _ _ => False)) : o.wp P a w K' Q := by
  unfold Oper.wp at *
  generalize (execOp a.eval o).run P w = r at *
  cases r with
  | ok n w' =>
    cases n <;> simp only [Oper.upon] at hh ⊢ <;>
      first
        | exact h _ _ hh
        | exact Calls.mono hh (fun e w'' he => by cases e <;> first | exact h _ _ he | exact he.elim | (obtain ⟨_, _, hf⟩ := he; exact hf.elim))
        | exact Rows.mono hh (fun _ _ he => h _ _ he)
  | halt x w' => cases x <;> simp only [Oper.upon] at hh ⊢ <;> exact hh.elim

theorem OpR_of_S {P : Program} {E : Env} {o : Oper} {ρ : Operand → AV} {h h' : List AObj} {v : AV} (H : OpS P E o ρ h v h') : OpR P E o ρ h (fun a b => a = v ∧ b = h') := by
  intro G a w hw hr
  exact wp_mono2 (fun a' w' ⟨u, G', h1, h2, h3, h4⟩ => ⟨u, G', v, h', ⟨rfl, rfl⟩, h1, h2, h3, h4⟩) (H G a w hw hr)

/-- A step of a region, whose guard is asked. -/
def StepR (P : Program) (E : Env) (N : Nat) (ops : Array Oper) (o : Oper) (τ : Nat → AV) (h : List AObj) (R : AV → List AObj → Prop) : Prop :=
  dstOk N o = true ∧ match o.guard with
  | none => OpR P E o (ev τ) h R
  | some (j, want) => ∃ d ex, (ops[j]?).bind (·.dst) = some d ∧ Nat.blt d N = true ∧ (∀ G v, RepA G (τ d) v → (v = .bool want ↔ ex = true)) ∧ (ex = true → OpR P E o (ev τ) h R) ∧ (ex = false → ∃ v, R v h ∧ ∀ G, RepA G v undef)

theorem eval_rep {G : Gh} {τ : Nat → AV} {a : Act} (htab : TabOk G.imm) (ht : ∀ t, RepA G (τ t) (a.tmps.getD t undef)) (x : Operand) : RepA G (ev τ x) (a.eval x) := by
  cases x with
  | tmp t => exact ht t
  | const v => exact ofVal_ok G v
  | global g => exact glob_rep htab g
  | func f => exact .fn _ #[] #[] rfl rfl (fun j x v h => by simp at h) (fun j x v h => by simp at h)

theorem rep_put {G : Gh} {τ : Nat → AV} {tmps : Array Value} {dst : Option Tmp} {v : AV} {u : Value} {N : Nat} (hs : tmps.size = N) (hd : ∀ d, dst = some d → d < N) (ht : ∀ t, RepA G (τ t) (tmps.getD t undef)) (hv : RepA G v u)
    (ds : List Deferred) : ∀ t, RepA G (putA τ dst v t) ((Act.put ⟨tmps, ds⟩ dst u).tmps.getD t undef) := by
  intro t
  cases dst with
  | none => exact ht t
  | some d =>
    have hdn := hd d rfl
    show RepA G (bif Nat.beq t d then v else τ t) ((tmps.setIfInBounds d u).getD t undef)
    cases hb : Nat.beq t d with
    | true =>
      obtain rfl := Nat.eq_of_beq_eq_true hb
      simp [hs, hdn]; exact hv
    | false =>
      have hne : d ≠ t := fun hh => by subst hh; rw [Nat.beq_refl] at hb; cases hb
      have := ht t
      simpa [Array.getElem?_setIfInBounds_ne hne] using this

theorem dstOk_lt {N : Nat} {o : Oper} (h : dstOk N o = true) : ∀ d, o.dst = some d → d < N := by
  intro d hd
  unfold dstOk at h
  rw [hd] at h
  exact Nat.le_of_ble_eq_true h

theorem put_size (a : Act) (dst : Option Tmp) (u : Value) : (a.put dst u).tmps.size = a.tmps.size := by cases dst <;> simp [Act.put]
theorem put_defers (a : Act) (dst : Option Tmp) (u : Value) : (a.put dst u).defers = a.defers := by cases dst <;> rfl

/-- One operation of a region. -/
theorem step_sound {P : Program} {E : Env} {N : Nat} {ops : Array Oper} {Q : Exit → Act → World → Prop} {i : Nat} {o : Oper} (ho : ops[i]? = some o) {τ : Nat → AV} {h : List AObj} {R : AV → List AObj → Prop} {K : Act → World → Prop} {a : Act} {w : World}
    (hs : StepR P E N ops o τ h R) (hr : Rel E N τ h a w) (hk : ∀ v h' a' w', R v h' → Rel E N (putA τ o.dst v) h' a' w' → K a' w') : wpOp P ops Q i K a w := by
  obtain ⟨hd, hg⟩ := hs
  obtain ⟨r1, r2, G, hw, ht⟩ := hr
  have hdl := dstOk_lt hd
  have go : OpR P E o (ev τ) h R → o.wp P a w K Q := fun H => by
    refine wp_mono2 ?_ (H G a w hw (fun x _ => eval_rep (E.tab.mono hw.le.imm) ht x))
    rintro a' w' ⟨u, G', v, h', hR, rfl, hle, hw', hv⟩
    refine hk v h' _ w' hR ⟨by rw [put_size]; exact r1, by rw [put_defers]; exact r2, G', hw', ?_⟩
    obtain ⟨tmps, ds⟩ := a
    exact rep_put r1 hdl (fun t => (ht t).mono hle) hv ds
  unfold wpOp
  simp only [ho]
  cases hgd : o.guard with
  | none =>
    rw [hgd] at hg
    have : Region.wanted o (yielded ops a.tmps) = true := by simp [Region.wanted, hgd]
    rw [if_pos this]
    exact .inl (go hg)
  | some g =>
    obtain ⟨j, want⟩ := g
    rw [hgd] at hg
    obtain ⟨d, ex, h1, h2, h3, h4, h5⟩ := hg
    have hv := h3 G _ (ht d)
    have hdn : d < a.tmps.size := by rw [r1]; exact Nat.le_of_ble_eq_true h2
    have hget : a.tmps[d]? = some (a.tmps.getD d undef) := by
      rw [Array.getD_eq_getD_getElem?]
      have h6 : a.tmps[d]? = some a.tmps[d] := by simp [hdn]
      rw [h6]; rfl
    have hwd : Region.wanted o (yielded ops a.tmps) = ex := by
      unfold Region.wanted yielded
      rw [hgd]
      simp only [h1, Option.bind_some, hget]
      generalize a.tmps.getD d undef = u at hv
      cases ex with
      | true =>
        rw [hv.2 rfl]; simp
      | false =>
        have hne : u ≠ .bool want := fun hh => by have := hv.1 hh; cases this
        cases u <;> simp
        rename_i b
        intro hh; exact hne (by rw [hh])
    rw [hwd]
    cases ex with
    | true => rw [if_pos rfl]; exact .inl (go (h4 rfl))
    | false =>
      rw [if_neg (by simp)]
      obtain ⟨v, hR, hv0⟩ := h5 rfl
      refine hk v h _ w hR ⟨by rw [put_size]; exact r1, by rw [put_defers]; exact r2, G, hw, ?_⟩
      obtain ⟨tmps, ds⟩ := a
      exact rep_put r1 hdl ht (hv0 G) ds

/-! ### regions in the text's order -/

def AWk (P : Program) (E : Env) (N : Nat) (ops : List Oper) (Q : (Nat → AV) → List AObj → Prop) : List Oper → (Nat → AV) → List AObj → Prop
  | [], τ, h => Q τ h
  | o :: rest, τ, h => ∃ R, StepR P E N ops.toArray o τ h R ∧ ∀ v h', R v h' → AWk P E N ops Q rest (putA τ o.dst v) h'

theorem AWk_sound {P : Program} {E : Env} {N : Nat} {ops : List Oper} {Q : Exit → (Nat → AV) → List AObj → Prop} : ∀ (rest : List Oper) (k : Nat) (τ : Nat → AV) (h : List AObj) (a : Act) (w : World), (∀ j, rest[j]? = ops[k + j]?) →
    AWk P E N ops (Q .normal) rest τ h → Rel E N τ h a w →
    wpOps P ops.toArray (fun ex a' w' => ∃ τ' h', Q ex τ' h' ∧ Rel E N τ' h' a' w') (List.range' k rest.length) a w
  | [], k, τ, h, a, w, _, hk, hr => ⟨τ, h, hk, hr⟩
  | o :: rest, k, τ, h, a, w, hj, hk, hr => by
    obtain ⟨R, hs, hnext⟩ := hk
    have ho : ops.toArray[k]? = some o := by simpa using (hj 0).symm
    simp only [List.length_cons, List.range'_succ]
    rw [wpOps_cons]
    exact step_sound ho hs hr fun v h' a' w' hR hrel =>
      AWk_sound rest (k + 1) _ _ a' w' (fun j => by have := hj (j + 1); simpa [Nat.add_assoc, Nat.add_comm 1 j] using this) (hnext v h' hR) hrel

theorem AW_region {P : Program} {E : Env} {N : Nat} {id : Nat} {ops : List Oper} {Q : Exit → (Nat → AV) → List AObj → Prop} {τ : Nat → AV} {h : List AObj} (hk : AWk P E N ops (Q .normal) ops τ h) : AW P E N (.region id ops.toArray false) Q τ h := by
  intro a w hr
  refine wp_region ?_
  have := AWk_sound ops 0 τ h a w (fun j => by simp) hk hr
  simpa [List.range_eq_range'] using this

theorem AWk_nil {P : Program} {E : Env} {N : Nat} {ops : List Oper} {Q : (Nat → AV) → List AObj → Prop} {τ : Nat → AV} {h : List AObj} (hq : Q τ h) : AWk P E N ops Q [] τ h := hq

/-- The step of an operation without a call. -/
def astep (T : Tr) (op : Op) (ρ : Operand → AV) (h : List AObj) : Option (AV × List AObj × Prop) :=
  match aopP T op ρ with
  | some (v, C) => forceV v fun v => some (v, h, C)
  | none => match aopH T op ρ h with
    | some (v, h') => forceV v fun v => forceS h' fun h' => some (v, h', True)
    | none => none

theorem astep_ok {P : Program} {E : Env} {T : Tr} (hT : TOk P T) {o : Oper} {τ : Nat → AV} {h h' : List AObj} {v : AV} {C : Prop} (hs : astep T o.op (ev τ) h = some (v, h', C)) (hC : C) : OpS P E o (ev τ) h v h' := by
  unfold astep at hs
  split at hs
  · rename_i hp; rw [forceV_eq] at hs; cases hs; exact OpS_of_pure (aopP_ok hT (fun _ => rfl) hp hC)
  · split at hs
    · rename_i hh; rw [forceV_eq, forceS_eq] at hs; cases hs; exact aopH_ok hT hh
    · cases hs

/-- The list of slots behind a step. -/
def putL (l : List (Nat × AV)) (dst : Option Tmp) (v : AV) : List (Nat × AV) := match dst with
  | some d => (d, v) :: l
  | none => l
theorem look_putL (l : List (Nat × AV)) (dst : Option Tmp) (v : AV) : look (putL l dst v) = putA (look l) dst v := by
  cases dst <;> rfl

theorem AWk_step {P : Program} {E : Env} {N : Nat} {T : Tr} (hT : TOk P T) {ops : List Oper} {Q : (Nat → AV) → List AObj → Prop} {d : Nat} {op : Op} {ty : TypeId} {pos : String} {after : Array Edge} {rest : List Oper}
    {l : List (Nat × AV)} {h h' : List AObj} {v : AV} {C : Prop} (hs : astep T op (ev (look l)) h = some (v, h', C)) (hd : Nat.blt d N = true) (hC : C) (hk : AWk P E N ops Q rest (look ((d, v) :: l)) h') :
    AWk P E N ops Q (⟨some d, op, ty, pos, after, none⟩ :: rest) (look l) h :=
  ⟨_, ⟨hd, OpR_of_S (astep_ok hT hs hC)⟩, fun v' h'' ⟨h1, h2⟩ => by subst h1; subst h2; exact hk⟩

theorem AWk_step0 {P : Program} {E : Env} {N : Nat} {T : Tr} (hT : TOk P T) {ops : List Oper} {Q : (Nat → AV) → List AObj → Prop} {op : Op} {ty : TypeId} {pos : String} {after : Array Edge} {rest : List Oper}
    {l : List (Nat × AV)} {h h' : List AObj} {v : AV} {C : Prop} (hs : astep T op (ev (look l)) h = some (v, h', C)) (hC : C) (hk : AWk P E N ops Q rest (look l) h') :
    AWk P E N ops Q (⟨none, op, ty, pos, after, none⟩ :: rest) (look l) h :=
  ⟨_, ⟨rfl, OpR_of_S (astep_ok hT hs hC)⟩, fun v' h'' ⟨h1, h2⟩ => by subst h1; subst h2; exact hk⟩

/-- A step given by a contract. -/
theorem AWk_op {P : Program} {E : Env} {N : Nat} {ops : List Oper} {Q : (Nat → AV) → List AObj → Prop} {d : Nat} {op : Op} {ty : TypeId} {pos : String} {after : Array Edge} {rest : List Oper}
    {l : List (Nat × AV)} {h h' : List AObj} {v : AV} (hs : OpS P E ⟨some d, op, ty, pos, after, none⟩ (ev (look l)) h v h') (hd : Nat.blt d N = true) (hk : AWk P E N ops Q rest (look ((d, v) :: l)) h') :
    AWk P E N ops Q (⟨some d, op, ty, pos, after, none⟩ :: rest) (look l) h :=
  ⟨_, ⟨hd, OpR_of_S hs⟩, fun v' h'' ⟨h1, h2⟩ => by subst h1; subst h2; exact hk⟩

theorem AWk_opR {P : Program} {E : Env} {N : Nat} {ops : List Oper} {Q : (Nat → AV) → List AObj → Prop} {d : Nat} {op : Op} {ty : TypeId} {pos : String} {after : Array Edge} {rest : List Oper}
    {l : List (Nat × AV)} {h : List AObj} {R : AV → List AObj → Prop} (hs : OpR P E ⟨some d, op, ty, pos, after, none⟩ (ev (look l)) h R) (hd : Nat.blt d N = true) (hk : ∀ v h', R v h' → AWk P E N ops Q rest (look ((d, v) :: l)) h') :
    AWk P E N ops Q (⟨some d, op, ty, pos, after, none⟩ :: rest) (look l) h :=
  ⟨_, ⟨hd, hs⟩, hk⟩

/-! guarded steps -/

def ung : AV → AV
  | .gd _ v => v
  | v => v
def gdC : AV → Prop
  | .gd b _ => b = true
  | _ => True
def gAll (τ : Nat → AV) : List Operand → Prop
  | [] => True
  | x :: l => match ev τ x with
    | .gd b _ => b = true ∧ gAll τ l
    | _ => gAll τ l

def evU (τ : Nat → AV) (x : Operand) : AV := ung (ev τ x)
/-- The operands of a guarded operation: what hangs on a guard is laid bare, but for what a pick chooses from. -/
def evG (τ : Nat → AV) (op : Op) (x : Operand) : AV := match op with
  | .pick c _ _ => match c, x with
    | .tmp i, .tmp j => bif Nat.beq i j then evU τ x else ev τ x
    | _, _ => ev τ x
  | _ => evU τ x
def gOps (op : Op) : List Operand := match op with
  | .pick c _ _ => [c]
  | op => op.operands.toList
theorem ung_ofVal (z : Value) : ung (ofVal z) = ofVal z := by
  unfold ofVal; split <;> rfl

theorem gAll_at {τ : Nat → AV} : ∀ {l : List Operand}, gAll τ l → ∀ x, x ∈ l → ∀ b v, ev τ x = .gd b v → b = true
  | [], _, x, hx, _, _, _ => by cases hx
  | y :: l, h, x, hx, b, v, he => by
    unfold gAll at h
    split at h
    · rename_i b' v' hy
      cases hx with
      | head => rw [he] at hy; cases hy; exact h.1
      | tail _ hx => exact gAll_at h.2 x hx b v he
    · rename_i hn
      cases hx with
      | head => exact absurd he (hn _ _)
      | tail _ hx => exact gAll_at h x hx b v he

theorem evU_rep {G : Gh} {τ : Nat → AV} {x : Operand} {v : Value} (hr : RepA G (ev τ x) v) (hg : ∀ b u, ev τ x = .gd b u → b = true) : RepA G (evU τ x) v := by
  unfold evU
  cases hv : ev τ x <;> rw [hv] at hr <;> try exact hr
  exact hr.gd_inv (hg _ _ hv)

theorem evG_rep {G : Gh} {τ : Nat → AV} {op : Op} (hg : gAll τ (gOps op)) {x : Operand} {v : Value} (hx : x ∈ op.operands.toList) (hr : RepA G (ev τ x) v) : RepA G (evG τ op x) v := by
  unfold evG
  split
  · rename_i c a b
    split
    · rename_i i j
      cases hb : Nat.beq i j with
      | true =>
        obtain rfl := Nat.eq_of_beq_eq_true hb
        exact evU_rep hr (gAll_at hg _ (by simp [gOps]))
      | false => exact hr
    · exact hr
  · rename_i hne
    refine evU_rep hr (gAll_at hg x ?_)
    unfold gOps
    split
    · rename_i c a b; exact absurd rfl (hne c a b)
    · exact hx

theorem OpR_ung {P : Program} {E : Env} {o : Oper} {τ : Nat → AV} {h : List AObj} {R : AV → List AObj → Prop} (hg : gAll τ (gOps o.op)) (H : OpR P E o (evG τ o.op) h R) : OpR P E o (ev τ) h R :=
  fun G a w hw hr => H G a w hw fun x hx => evG_rep hg hx (hr x hx)

theorem evG_const (τ : Nat → AV) (op : Op) (z : Value) : evG τ op (.const z) = ofVal z := by
  unfold evG
  split
  · rename_i c a b; cases c <;> rfl
  · exact ung_ofVal z

theorem astepU_ok {P : Program} {E : Env} {T : Tr} (hT : TOk P T) {o : Oper} {τ : Nat → AV} {h h' : List AObj} {v : AV} {C : Prop} (hs : astep T o.op (evG τ o.op) h = some (v, h', C)) (hC : C) : OpS P E o (evG τ o.op) h v h' := by
  unfold astep at hs
  split at hs
  · rename_i hp; rw [forceV_eq] at hs; cases hs; exact OpS_of_pure (aopP_ok hT (fun z => evG_const τ _ z) hp hC)
  · split at hs
    · rename_i hh; rw [forceV_eq, forceS_eq] at hs; cases hs; exact aopH_ok hT hh
    · cases hs

theorem OpR_mono {P : Program} {E : Env} {o : Oper} {ρ : Operand → AV} {h : List AObj} {R R' : AV → List AObj → Prop} (H : OpR P E o ρ h R) (hR : ∀ v h', R v h' → ∃ v', R' v' h' ∧ ∀ G x, RepA G v x → RepA G v' x) : OpR P E o ρ h R' := by
  intro G a w hw hr
  refine wp_mono2 ?_ (H G a w hw hr)
  rintro a' w' ⟨u, G', v, h', h0, h1, h2, h3, h4⟩
  obtain ⟨v', k1, k2⟩ := hR v h' h0
  exact ⟨u, G', v', h', k1, h1, h2, h3, k2 _ _ h4⟩

/-- Does the guard ask for this? (as a bool) -/
def gval (b want : Bool) : Bool := match want with
  | true => b
  | false => !b
theorem gval_eq {b want : Bool} : gval b want = true ↔ b = want := by cases b <;> cases want <;> simp [gval]

/-- The guard's slot, and whether it asks for this. -/
def gslot (ops : List Oper) (l : List (Nat × AV)) (j : Nat) (want : Bool) : Option (Nat × Bool) := match ops[j]? with
  | some o => match o.dst with
    | some d => match look l d with
      | .d (.bool b) => some (d, gval b want)
      | .gd g (.d (.bool b)) => some (d, g && gval b want)
      | _ => none
    | none => none
  | none => none

theorem gslot_ok {ops : List Oper} {l : List (Nat × AV)} {j d : Nat} {want ex : Bool} (h : gslot ops l j want = some (d, ex)) : (ops.toArray[j]?).bind (·.dst) = some d ∧ ∀ G v, RepA G (look l d) v → (v = .bool want ↔ ex = true) := by
  unfold gslot at h
  split at h
  · rename_i o ho
    split at h
    · rename_i d' hd
      split at h
      · rename_i b' hl
        cases h
        refine ⟨by simp [ho, hd], fun G v hr => ?_⟩
        rw [hl] at hr
        rw [hr.bool_inv, gval_eq]; simp
      · rename_i g b' hl
        cases h
        refine ⟨by simp [ho, hd], fun G v hr => ?_⟩
        rw [hl] at hr
        cases g with
        | true => rw [(hr.gd_inv rfl).bool_inv, Bool.true_and, gval_eq]; simp
        | false => rw [hr.gd_undef rfl]; simp [undef]
      · cases h
    · cases h
  · cases h

/-- What stands in the slot of a guarded operation. -/
theorem guard_ok {P : Program} {E : Env} {N : Nat} {ops : List Oper} {o : Oper} {l : List (Nat × AV)} {h : List AObj} {v : AV} {j gd : Nat} {want ex : Bool} (hgd' : o.guard = some (j, want)) (hg : gslot ops l j want = some (gd, ex)) (hd : dstOk N o = true) (hgd : Nat.blt gd N = true)
    (H : ex = true → gAll (look l) (gOps o.op) ∧ OpS P E o (evG (look l) o.op) h v h) : StepR P E N ops.toArray o (look l) h (fun a b => a = .gd ex v ∧ b = h) := by
  obtain ⟨g1, g2⟩ := gslot_ok hg
  refine ⟨hd, ?_⟩
  rw [hgd']
  refine ⟨gd, ex, g1, hgd, g2, fun hb => ?_, fun hb => ⟨_, ⟨rfl, rfl⟩, fun G => .gd (fun hh => by rw [hb] at hh; cases hh) (fun _ => rfl)⟩⟩
  have hc := H hb
  refine OpR_ung hc.1 (OpR_mono (OpR_of_S hc.2) ?_)
  rintro v' h' ⟨rfl, rfl⟩
  exact ⟨_, ⟨rfl, rfl⟩, fun G x hx => .gd (fun _ => hx) (fun hh => by rw [hb] at hh; cases hh)⟩

theorem AWk_gstep {P : Program} {E : Env} {N : Nat} {T : Tr} (hT : TOk P T) {ops : List Oper} {Q : (Nat → AV) → List AObj → Prop} {d : Nat} {op : Op} {ty : TypeId} {pos : String} {after : Array Edge} {j : Nat} {want : Bool} {rest : List Oper}
    {l : List (Nat × AV)} {h : List AObj} {v : AV} {C : Prop} {gd : Nat} {ex : Bool} (hg : gslot ops l j want = some (gd, ex)) (hs : astep T op (evG (look l) op) h = some (v, h, C)) (hd : Nat.blt d N = true) (hgd : Nat.blt gd N = true)
    (hC : ex = true → gAll (look l) (gOps op) ∧ C) (hk : AWk P E N ops Q rest (look ((d, .gd ex v) :: l)) h) :
    AWk P E N ops Q (⟨some d, op, ty, pos, after, some (j, want)⟩ :: rest) (look l) h :=
  ⟨_, guard_ok rfl hg hd hgd (fun hb => ⟨(hC hb).1, astepU_ok (o := ⟨some d, op, ty, pos, after, some (j, want)⟩) hT hs (hC hb).2⟩), fun v' h'' ⟨h1, h2⟩ => by subst h1; subst h2; exact hk⟩

/-- A guarded step given by a contract. -/
theorem AWk_gop {P : Program} {E : Env} {N : Nat} {ops : List Oper} {Q : (Nat → AV) → List AObj → Prop} {d : Nat} {op : Op} {ty : TypeId} {pos : String} {after : Array Edge} {j : Nat} {want : Bool} {rest : List Oper}
    {l : List (Nat × AV)} {h : List AObj} {v : AV} {gd : Nat} {ex : Bool} (hg : gslot ops l j want = some (gd, ex)) (hd : Nat.blt d N = true) (hgd : Nat.blt gd N = true)
    (hC : ex = true → gAll (look l) (gOps op) ∧ OpS P E ⟨some d, op, ty, pos, after, some (j, want)⟩ (evG (look l) op) h v h) (hk : AWk P E N ops Q rest (look ((d, .gd ex v) :: l)) h) :
    AWk P E N ops Q (⟨some d, op, ty, pos, after, some (j, want)⟩ :: rest) (look l) h :=
  ⟨_, guard_ok rfl hg hd hgd hC, fun v' h'' ⟨h1, h2⟩ => by subst h1; subst h2; exact hk⟩
end Tdoc
