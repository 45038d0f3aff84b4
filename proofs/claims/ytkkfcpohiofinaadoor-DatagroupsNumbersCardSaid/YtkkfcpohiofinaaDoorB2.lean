/- Contracts: what a function does to abstract values, its body, its calls. No program is named here. -/
import Derived.Test.YtkkfcpohiofinaaDoorB1
set_option linter.unusedSimpArgs false
set_option linter.unusedVariables false
namespace Tdoc
open Go

/-! ### names of objects -/
def renT (f : Nat → Nat) : Tok → Tok
  | .right i => .right (f i)
  | t => t

mutual
def ren (f : Nat → Nat) : AV → AV
  | .d x => .d x
  | .sl sz es tok => .sl sz es (renT f tok)
  | .nils => .nils
  | .ptr i off => .ptr (f i) off
  | .iptr cs => .iptr cs
  | .nilp => .nilp
  | .row i off n cap => .row (f i) off n cap
  | .bm i n => .bm (f i) n
  | .bp i n m => .bp (f i) n m
  | .fn g a b => .fn g (renL f a) (renL f b)
  | .nilf => .nilf
  | .agg cs => .agg (renL f cs)
  | .tup vs => .tup (renL f vs)
  | .gd b v => .gd b (ren f v)
  | .any => .any
def renL (f : Nat → Nat) : List AV → List AV
  | [] => []
  | a :: l => ren f a :: renL f l
end

def lowT (k : Nat) : Tok → Bool
  | .right i => Nat.blt i k
  | _ => true

mutual
def low (k : Nat) : AV → Bool
  | .d _ => true
  | .sl _ _ tok => lowT k tok
  | .nils => true
  | .ptr i _ => Nat.blt i k
  | .iptr _ => true
  | .nilp => true
  | .row i _ _ _ => Nat.blt i k
  | .bm i _ => Nat.blt i k
  | .bp i _ _ => Nat.blt i k
  | .fn _ a b => lowL k a && lowL k b
  | .nilf => true
  | .agg cs => lowL k cs
  | .tup vs => lowL k vs
  | .gd _ v => low k v
  | .any => true
def lowL (k : Nat) : List AV → Bool
  | [] => true
  | a :: l => low k a && lowL k l
end

theorem renL_at (f : Nat → Nat) : ∀ (l : List AV) (j : Nat), (renL f l)[j]? = (l[j]?).map (ren f)
  | [], j => by simp [renL]
  | a :: l, 0 => by simp [renL]
  | a :: l, j + 1 => by simpa [renL] using renL_at f l j
theorem renL_length (f : Nat → Nat) : ∀ (l : List AV), (renL f l).length = l.length
  | [] => rfl
  | a :: l => by simp [renL, renL_length f l]
theorem lowL_at {k : Nat} : ∀ {l : List AV} {j : Nat} {x : AV}, lowL k l = true → l[j]? = some x → low k x = true
  | [], j, x, _, h => by simp at h
  | a :: l, 0, x, h, hx => by simp at hx; subst hx; simp [lowL] at h; exact h.1
  | a :: l, j + 1, x, h, hx => by simp [lowL] at h; exact lowL_at h.2 (by simpa using hx)

def renO (f : Nat → Nat) : AObj → AObj
  | .row cells => .row (renL f cells)
  | .buf sz n cells => .buf sz n (renL f cells)
  | .right sz n => .right sz n
  | .dead => .dead
  | .room => .room
def lowO (k : Nat) : AObj → Bool
  | .row cells => lowL k cells
  | .buf _ _ cells => lowL k cells
  | _ => true
def lowH (k : Nat) : List AObj → Bool
  | [] => true
  | o :: l => lowO k o && lowH k l
theorem lowH_at {k : Nat} : ∀ {l : List AObj} {j : Nat} {x : AObj}, lowH k l = true → l[j]? = some x → lowO k x = true
  | [], j, x, _, h => by simp at h
  | a :: l, 0, x, h, hx => by simp at hx; subst hx; simp [lowH] at h; exact h.1
  | a :: l, j + 1, x, h, hx => by simp [lowH] at h; exact lowH_at h.2 (by simpa using hx)

/-- Two ghost states that speak alike of some objects, under other names. -/
structure Alike (k : Nat) (f : Nat → Nat) (G G' : Gh) : Prop where
  imm : ∀ a v, G.imm a = some v → G'.imm a = some v
  loc : ∀ i b, i < k → G.loc i = some b → G'.loc (f i) = some b
  rt : ∀ i n x, i < k → G.rt i n = some x → G'.rt (f i) n = some x

theorem blt_lt {a b : Nat} (h : Nat.blt a b = true) : a < b := Nat.le_of_ble_eq_true h

theorem RepA.alike {k : Nat} {f : Nat → Nat} {G G' : Gh} (ha : Alike k f G G') {x : AV} {v : Value} (h : RepA G x v) : low k x = true → RepA G' (ren f x) v := by
  induction h with
  | d r => intro _; exact .d (r.mono ha.imm)
  | @sl sz es tok v r t =>
    intro hl
    refine .sl (r.mono ha.imm) ?_
    cases tok with
    | none => trivial
    | full => exact t
    | right i =>
      obtain ⟨a, cap, hv, hr⟩ := t
      exact ⟨a, cap, hv, ha.rt _ _ _ (blt_lt hl) hr⟩
  | nils => intro _; exact .nils
  | ptr off hl => intro h; exact .ptr off (ha.loc _ _ (blt_lt h) hl)
  | iptr a vs h1 h2 h3 => intro _; exact .iptr a vs h1 (fun j d hd => ha.imm _ _ (h2 j d hd)) (fun j d hd => (h3 j d hd).mono ha.imm)
  | nilp => intro _; exact .nilp
  | row off n cap hl => intro h; exact .row off n cap (ha.loc _ _ (blt_lt h) hl)
  | bm a cap hr hz => intro h; exact .bm a cap (ha.rt _ _ _ (blt_lt h) hr) hz
  | bp p cap k hr => intro h; exact .bp p cap k (ha.rt _ _ _ (blt_lt h) hr)
  | fn g fs cs h1 h2 _ _ ih1 ih2 =>
    intro hl
    simp only [low, Bool.and_eq_true] at hl
    refine .fn g fs cs (by rw [renL_length]; exact h1) (by rw [renL_length]; exact h2) (fun j x v hx hv => ?_) (fun j x v hx hv => ?_)
    · rw [renL_at, Option.map_eq_some_iff] at hx
      obtain ⟨y, hy, rfl⟩ := hx
      exact ih1 j y v hy hv (lowL_at hl.1 hy)
    · rw [renL_at, Option.map_eq_some_iff] at hx
      obtain ⟨y, hy, rfl⟩ := hx
      exact ih2 j y v hy hv (lowL_at hl.2 hy)
  | nilf => intro _; exact .nilf
  | agg vs h1 _ h3 ih =>
    intro hl
    refine .agg vs (by rw [renL_length]; exact h1) (fun j x v hx hv => ?_) h3
    rw [renL_at, Option.map_eq_some_iff] at hx
    obtain ⟨y, hy, rfl⟩ := hx
    exact ih j y v hy hv (lowL_at hl hy)
  | tup vs h1 _ ih =>
    intro hl
    refine .tup vs (by rw [renL_length]; exact h1) (fun j x v hx hv => ?_)
    rw [renL_at, Option.map_eq_some_iff] at hx
    obtain ⟨y, hy, rfl⟩ := hx
    exact ih j y v hy hv (lowL_at hl hy)
  | gd _ hu ih => intro hl; exact .gd (fun hb => ih hb hl) hu
  | any v => intro _; exact .any v

mutual
theorem ren_id (f : Nat → Nat) (hf : ∀ i, f i = i) : ∀ (x : AV), ren f x = x
  | .d x => rfl
  | .sl sz es tok => by cases tok <;> simp [ren, renT, hf]
  | .nils => rfl
  | .ptr i off => by simp [ren, hf]
  | .iptr cs => rfl
  | .nilp => rfl
  | .row i off n cap => by simp [ren, hf]
  | .bm i n => by simp [ren, hf]
  | .bp i n m => by simp [ren, hf]
  | .fn g a b => by simp [ren, renL_id f hf a, renL_id f hf b]
  | .nilf => rfl
  | .agg cs => by simp [ren, renL_id f hf cs]
  | .tup vs => by simp [ren, renL_id f hf vs]
  | .gd b v => by simp [ren, ren_id f hf v]
  | .any => rfl
theorem renL_id (f : Nat → Nat) (hf : ∀ i, f i = i) : ∀ (l : List AV), renL f l = l
  | [] => rfl
  | a :: l => by simp [renL, ren_id f hf a, renL_id f hf l]
end

/-- The reverse: what is told under the other names. -/
structure Back (k : Nat) (f : Nat → Nat) (G G' : Gh) : Prop where
  imm : ∀ a v, G'.imm a = some v → G.imm a = some v
  loc : ∀ i b, i < k → G'.loc (f i) = some b → G.loc i = some b
  rt : ∀ i n x, i < k → G'.rt (f i) n = some x → G.rt i n = some x

theorem RepA.back {k : Nat} {f : Nat → Nat} {G G' : Gh} (hb : Back k f G G') {y : AV} {v : Value} (h : RepA G' y v) : ∀ x, y = ren f x → low k x = true → RepA G x v := by
  induction h with
  | d r => intro x hx hl; cases x <;> simp [ren] at hx; subst hx; exact .d (r.mono hb.imm)
  | @sl sz es tok v r t =>
    intro x hx hl
    cases x <;> simp [ren] at hx
    obtain ⟨rfl, rfl, rfl⟩ := hx
    rename_i tok'
    refine .sl (r.mono hb.imm) ?_
    cases tok' with
    | none => trivial
    | full => exact t
    | right i =>
      obtain ⟨a, cap, hv, hr⟩ := t
      exact ⟨a, cap, hv, hb.rt _ _ _ (blt_lt hl) hr⟩
  | nils => intro x hx hl; cases x <;> simp [ren] at hx; exact .nils
  | ptr off hloc => intro x hx hl; cases x <;> simp [ren] at hx; obtain ⟨rfl, rfl⟩ := hx; exact .ptr _ (hb.loc _ _ (blt_lt hl) hloc)
  | iptr a vs h1 h2 h3 => intro x hx hl; cases x <;> simp [ren] at hx; subst hx; exact .iptr a vs h1 (fun j d hd => hb.imm _ _ (h2 j d hd)) (fun j d hd => (h3 j d hd).mono hb.imm)
  | nilp => intro x hx hl; cases x <;> simp [ren] at hx; exact .nilp
  | row off n cap hloc => intro x hx hl; cases x <;> simp [ren] at hx; obtain ⟨rfl, rfl, rfl, rfl⟩ := hx; exact .row _ _ _ (hb.loc _ _ (blt_lt hl) hloc)
  | bm a cap hr hz => intro x hx hl; cases x <;> simp [ren] at hx; obtain ⟨rfl, rfl⟩ := hx; exact .bm _ _ (hb.rt _ _ _ (blt_lt hl) hr) hz
  | bp p cap k hr => intro x hx hl; cases x <;> simp [ren] at hx; obtain ⟨rfl, rfl, rfl⟩ := hx; exact .bp _ _ _ (hb.rt _ _ _ (blt_lt hl) hr)
  | fn g fs cs h1 h2 _ _ ih1 ih2 =>
    intro x hx hl
    cases x <;> simp [ren] at hx
    obtain ⟨rfl, rfl, rfl⟩ := hx
    simp only [low, Bool.and_eq_true] at hl
    rw [renL_length] at h1 h2
    refine .fn _ fs cs h1 h2 (fun j x v hx hv => ?_) (fun j x v hx hv => ?_)
    · exact ih1 j (ren f x) v (by rw [renL_at, hx]; rfl) hv x rfl (lowL_at hl.1 hx)
    · exact ih2 j (ren f x) v (by rw [renL_at, hx]; rfl) hv x rfl (lowL_at hl.2 hx)
  | nilf => intro x hx hl; cases x <;> simp [ren] at hx; exact .nilf
  | agg vs h1 _ h3 ih =>
    intro x hx hl
    cases x <;> simp [ren] at hx
    subst hx
    rw [renL_length] at h1
    exact .agg vs h1 (fun j x v hx hv => ih j (ren f x) v (by rw [renL_at, hx]; rfl) hv x rfl (lowL_at hl hx)) h3
  | tup vs h1 _ ih =>
    intro x hx hl
    cases x <;> simp [ren] at hx
    subst hx
    rw [renL_length] at h1
    exact .tup vs h1 (fun j x v hx hv => ih j (ren f x) v (by rw [renL_at, hx]; rfl) hv x rfl (lowL_at hl hx))
  | gd _ hu ih => intro x hx hl; cases x <;> simp [ren] at hx; obtain ⟨rfl, rfl⟩ := hx; exact .gd (fun hb' => ih hb' _ rfl hl) hu
  | any v => intro x hx hl; cases x <;> simp [ren] at hx; exact .any v

/-! ### contracts -/
def Spec (P : Program) (f : FuncId) (args : List AV) (h : List AObj) (Q : AV → List AObj → Prop) : Prop :=
  (∃ fn, P.funcs[f]? = some fn ∧ (fn.name == "runtime.NumGoroutine") = false ∧ fn.body.isNone = false) ∧
  ∀ (G : Gh) (w : World) (vals : Array Value), vals.size = args.length → (∀ (j : Nat) (x : AV) (v : Value), args[j]? = some x → vals[j]? = some v → RepA G x v) →
    ∀ htab : TabOk G.imm, WRel ⟨w, G, htab⟩ G h w → Calls P f vals w (fun e w' => ∃ v r h' G', e = .returned v ∧ Q r h' ∧ h'.length = h.length ∧ low h.length r = true ∧ lowH h.length h' = true ∧ RepA G' r v ∧ WRel ⟨w, G, htab⟩ G' h' w')

theorem Spec.mono {P : Program} {f : FuncId} {args : List AV} {h : List AObj} {Q Q' : AV → List AObj → Prop} (H : Spec P f args h Q) (hq : ∀ r h', Q r h' → Q' r h') : Spec P f args h Q' :=
  ⟨H.1, fun G w vals h1 h2 ht h3 => (H.2 G w vals h1 h2 ht h3).mono fun e w' ⟨v, r, h', G', k1, k2, k3⟩ => ⟨v, r, h', G', k1, hq _ _ k2, k3⟩⟩

def pars : List AV → Nat → List (Nat × AV)
  | [], _ => []
  | a :: l, k => (k, a) :: pars l (k + 1)

theorem look_pars : ∀ (l : List AV) (k t : Nat), look (pars l k) t = if k ≤ t ∧ t < k + l.length then (l[t - k]?).getD .any else .any
  | [], k, t => by simp [pars, look]
  | a :: l, k, t => by
    unfold pars look
    cases hb : Nat.beq t k with
    | true =>
      obtain rfl := Nat.eq_of_beq_eq_true hb
      simp
    | false =>
      have hne : t ≠ k := fun hh => by subst hh; rw [Nat.beq_refl] at hb; cases hb
      show look (pars l (k + 1)) t = _
      rw [look_pars l (k + 1) t]
      simp only [List.length_cons]
      by_cases h1 : k + 1 ≤ t ∧ t < k + 1 + l.length
      · rw [if_pos h1, if_pos (by omega)]
        rw [show t - k = (t - (k + 1)) + 1 by omega]; simp
      · rw [if_neg h1, if_neg (by omega)]

/-! results -/
def resOne (T : Tr) (τ : Nat → AV) (h : List AObj) : ResultVar → Option AV
  | .tmp t => some (τ t)
  | .cell a t => match τ a with
    | .ptr i off => match h[i]? with
      | some (.row cells) => loadF T t cells off
      | _ => none
    | _ => none

def resAll (T : Tr) (τ : Nat → AV) (h : List AObj) : List ResultVar → Option (List AV)
  | [] => some []
  | x :: l => match resOne T τ h x with
    | some v => match resAll T τ h l with
      | some r => some (v :: r)
      | none => none
    | none => none

def resA (T : Tr) (τ : Nat → AV) (h : List AObj) (l : List ResultVar) : Option AV := match resAll T τ h l with
  | some [v] => some v
  | some vs => some (.tup vs)
  | none => none

section
variable {P : Program} {T : Tr}

theorem resOne_run (hT : TOk P T) {E : Env} {G : Gh} {h : List AObj} {w : World} {τ : Nat → AV} {tmps : Array Value} (hw : WRel E G h w) (ht : ∀ t, RepA G (τ t) (tmps.getD t undef)) {x : ResultVar} {v : AV} (hx : resOne T τ h x = some v) :
    ∃ u, (match x with | .tmp t => pure (tmps.getD t undef) | .cell a t => do loadVar t (← asAddr (tmps.getD a undef)) : Sem Value).run P w = .ok u w ∧ RepA G v u := by
  cases x with
  | tmp t => simp only [resOne, Option.some.injEq] at hx; subst hx; exact ⟨_, rfl, ht t⟩
  | cell a t =>
    simp only [resOne] at hx
    split at hx
    · rename_i i off hp
      split at hx
      · rename_i cells hi
        rw [loadF_eq] at hx
        have hpa := ht a
        rw [hp] at hpa
        obtain ⟨b, hb, hl⟩ := hpa.ptr_inv
        have hop := load_ok (E := E) (h := h) hT (o := ⟨none, .load t (.tmp a), 0, "", #[], none⟩) (ρ := ev τ) (i := i) (off := off) rfl hp hi hx
        -- the load's own run
        have := hop G ⟨tmps, []⟩ w hw (fun y hy => eval_rep (a := ⟨tmps, []⟩) (E.tab.mono hw.le.imm) ht y)
        unfold Oper.wp execOp at this
        simp only [Instr.loadAt, Sem.run_bind, Act.eval, hb, Instr.sureAddr, Sem.run_pure, Result.andThen_ok] at this
        simp only [hb, asAddr, Sem.run_bind, Sem.run_pure, Result.andThen_ok]
        -- loads leave the world alone
        obtain ⟨b', hl', hown, hrow, himm⟩ := hw.obj i _ hi
        rw [hl] at hl'; cases hl'
        unfold loadA at hx
        split at hx
        · rename_i ti hf
          have hti := hT.at hf
          split at hx
          · rename_i hagg
            split at hx
            · rename_i hble
              have hle := Nat.le_of_ble_eq_true hble
              cases hx
              have hcell : ∀ j, j < ti.size → ∃ u, w.cell? ⟨b, off + j, none⟩ = some u ∧ oneC u = true ∧ RepA G (cells[off + j]?.getD .any) u := by
                intro j hj
                have hc : cells[off + j]? = some cells[off + j] := by simp [show off + j < cells.length by omega]
                obtain ⟨u, h1, h2, h3, _⟩ := hrow _ _ hc
                exact ⟨u, h1, h2, by rw [hc]; exact h3⟩
              let f : Nat → Value := fun j => (w.cell? ⟨b, off + j, none⟩).getD undef
              have hld : (loadCells ⟨b, off, none⟩ ti.size).run P w = .ok ((List.range ti.size).map f).toArray w := by
                refine run_loadCells (P := P) w _ _ f (fun j hj => ?_)
                obtain ⟨u, h1, _⟩ := hcell j hj
                rw [add_mk]; simp [f, h1]
              refine ⟨.agg ((List.range ti.size).map f).toArray, by simp [loadVar, hti.run_agg, hagg, hti.run_size, hld], .agg _ (by simp; omega) (fun j c y hc hy => ?_) (fun j y hy => ?_)⟩
              · simp only [List.getElem?_take, List.getElem?_drop] at hc
                split at hc
                · rename_i hj
                  obtain ⟨u, h1, h2, h3⟩ := hcell j hj
                  simp [hj, f, h1] at hy
                  subst hy
                  rw [hc] at h3; exact h3
                · cases hc
              · by_cases hj : j < ti.size
                · obtain ⟨u, h1, h2, h3⟩ := hcell j hj
                  simp [hj, f, h1] at hy
                  subst hy; exact h2
                · simp [hj] at hy
            · cases hx
          · rename_i hagg
            obtain ⟨u, h1, h2, h3, _⟩ := hrow _ _ hx
            exact ⟨u, by simp [loadVar, hti.run_agg, hagg, h1], h3⟩
        · cases hx
      · cases hx
    · cases hx

theorem resAll_run (hT : TOk P T) {E : Env} {G : Gh} {h : List AObj} {w : World} {τ : Nat → AV} {tmps : Array Value} (hw : WRel E G h w) (ht : ∀ t, RepA G (τ t) (tmps.getD t undef)) : ∀ {l : List ResultVar} {vs : List AV}, resAll T τ h l = some vs →
    ∃ us : List Value, (l.mapM (fun x => (match x with | .tmp t => pure (tmps.getD t undef) | .cell a t => do loadVar t (← asAddr (tmps.getD a undef)) : Sem Value))).run P w = .ok us w ∧ us.length = vs.length ∧
      ∀ (j : Nat) (x : AV) (u : Value), vs[j]? = some x → us[j]? = some u → RepA G x u
  | [], vs, h => by simp [resAll] at h; subst h; exact ⟨[], by simp, rfl, fun j x u h => by simp at h⟩
  | x :: l, vs, hv => by
    unfold resAll at hv
    split at hv
    · rename_i v hx
      split at hv
      · rename_i r hr
        cases hv
        obtain ⟨u, hu, hru⟩ := resOne_run hT hw ht hx
        obtain ⟨us, h1, h2, h3⟩ := resAll_run hT hw ht hr
        refine ⟨u :: us, ?_, by simp [h2], fun j y z hy hz => ?_⟩
        · simp only [List.mapM_cons, Sem.run_bind, hu, Result.andThen_ok, h1, Sem.run_pure]
        · cases j with
          | zero => simp at hy hz; subst hy; subst hz; exact hru
          | succ j => exact h3 j y z (by simpa using hy) (by simpa using hz)
      · cases hv
    · cases hv

theorem resA_run (hT : TOk P T) {E : Env} {G : Gh} {h : List AObj} {w : World} {τ : Nat → AV} {tmps : Array Value} (hw : WRel E G h w) (ht : ∀ t, RepA G (τ t) (tmps.getD t undef)) {fn : Func} {l : List ResultVar} (hfn : fn.results = l.toArray) {v : AV} (hv : resA T τ h l = some v) :
    ∃ u, (results fn tmps).run P w = .ok u w ∧ RepA G v u := by
  unfold resA at hv
  split at hv
  · rename_i v0 hr
    cases hv
    obtain ⟨us, h1, h2, h3⟩ := resAll_run hT hw ht hr
    obtain ⟨u, rfl⟩ : ∃ u, us = [u] := by
      cases us with
      | nil => simp at h2
      | cons u r => cases r with
        | nil => exact ⟨u, rfl⟩
        | cons _ _ => simp at h2
    refine ⟨u, ?_, h3 0 v u rfl rfl⟩
    unfold results
    rw [hfn, List.mapM_toArray]
    simp only [Sem.run_bind, Sem.run_map]
    erw [h1]
    simp
  · rename_i vs hne hr
    cases hv
    obtain ⟨us, h1, h2, h3⟩ := resAll_run hT hw ht hr
    have hlen : us.length ≠ 1 := by
      intro hh
      rw [h2] at hh
      obtain ⟨v0, rfl⟩ := List.length_eq_one_iff.1 hh
      exact hne v0 rfl
    refine ⟨.tuple us.toArray, ?_, .tup _ (by simp [h2]) (fun j x u hx hu => h3 j x u hx (by simpa using hu))⟩
    unfold results
    rw [hfn, List.mapM_toArray]
    simp only [Sem.run_bind, Sem.run_map]
    erw [h1]
    simp [hlen]
  · cases hv
end
end Tdoc
