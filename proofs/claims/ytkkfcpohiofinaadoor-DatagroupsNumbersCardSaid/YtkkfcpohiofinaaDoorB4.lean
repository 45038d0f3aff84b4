/- Calls as steps, and telling a state with less. No program is named here. -/
import Derived.Test.YtkkfcpohiofinaaDoorB3
set_option linter.unusedSimpArgs false
set_option linter.unusedVariables false
namespace Tdoc
open Go

mutual
theorem ren_low (f : Nat → Nat) : ∀ (x : AV), low 0 x = true → ren f x = x
  | .d x, _ => rfl
  | .sl sz es tok, h => by cases tok <;> first | rfl | (simp [low, lowT] at h)
  | .nils, _ => rfl
  | .ptr i off, h => by simp [low] at h
  | .iptr cs, _ => rfl
  | .nilp, _ => rfl
  | .row i off n cap, h => by simp [low] at h
  | .bm i n, h => by simp [low] at h
  | .bp i n m, h => by simp [low] at h
  | .fn g a b, h => by simp [low] at h; simp [ren, renL_low f a h.1, renL_low f b h.2]
  | .nilf, _ => rfl
  | .agg cs, h => by simp [low] at h; simp [ren, renL_low f cs h]
  | .tup vs, h => by simp [low] at h; simp [ren, renL_low f vs h]
  | .gd b v, h => by simp [low] at h; simp [ren, ren_low f v h]
  | .any, _ => rfl
theorem renL_low (f : Nat → Nat) : ∀ (l : List AV), lowL 0 l = true → renL f l = l
  | [], _ => rfl
  | a :: l, h => by simp [lowL] at h; simp [renL, ren_low f a h.1, renL_low f l h.2]
end

mutual
theorem low_mono {k k' : Nat} (hk : k ≤ k') : ∀ (x : AV), low k x = true → low k' x = true
  | .d x, _ => rfl
  | .sl sz es tok, h => by
    cases tok with
    | right i => have := blt_lt (a := i) (b := k) h; simp [low, lowT]; omega
    | none => rfl
    | full => rfl
  | .nils, _ => rfl
  | .ptr i off, h => by have := blt_lt (a := i) (b := k) h; simp [low]; omega
  | .iptr cs, _ => rfl
  | .nilp, _ => rfl
  | .row i off n cap, h => by have := blt_lt (a := i) (b := k) h; simp [low]; omega
  | .bm i n, h => by have := blt_lt (a := i) (b := k) h; simp [low]; omega
  | .bp i n m, h => by have := blt_lt (a := i) (b := k) h; simp [low]; omega
  | .fn g a b, h => by simp [low] at h; simp [low, lowL_mono hk a h.1, lowL_mono hk b h.2]
  | .nilf, _ => rfl
  | .agg cs, h => by simp [low] at h; simp [low, lowL_mono hk cs h]
  | .tup vs, h => by simp [low] at h; simp [low, lowL_mono hk vs h]
  | .gd b v, h => by simp [low] at h; simp [low, low_mono hk v h]
  | .any, _ => rfl
theorem lowL_mono {k k' : Nat} (hk : k ≤ k') : ∀ (l : List AV), lowL k l = true → lowL k' l = true
  | [], _ => rfl
  | a :: l, h => by simp [lowL] at h; simp [lowL, low_mono hk a h.1, lowL_mono hk l h.2]
end

theorem lowL_d {k : Nat} : ∀ (l : List Dat), lowL k (l.map .d) = true
  | [] => rfl
  | a :: l => by simp [lowL, low, lowL_d l]

theorem renO_low (f : Nat → Nat) (o : AObj) (h : lowO 0 o = true) : renO f o = o := by
  cases o with
  | row cells => simp [renO, renL_low f cells h]
  | buf sz n cells => simp [renO, renL_low f cells h]
  | right sz n => rfl
  | dead => rfl
  | room => rfl

theorem renH_low (f : Nat → Nat) : ∀ (l : List AObj), lowH 0 l = true → l.map (renO f) = l
  | [], _ => rfl
  | a :: l, h => by simp [lowH] at h; simp [renO_low f a h.1, renH_low f l h.2]

section
variable {P : Program} {E : Env}

/-- A call of a function value, by the callee's contract. -/
theorem callR {o : Oper} {ρ : Operand → AV} {H : List AObj} {f : Operand} {as : List Operand} {ats : Array TypeId} {g : FuncId} {first cap : List AV} (ho : o.op = .call ⟨.value f, as.toArray, ats⟩) (hf : ρ f = .fn (.func g) first cap)
    {args : List AV} {hc : List AObj} {Q : AV → List AObj → Prop} (S : Spec P g args hc Q) (fs : List Nat) (hnd : fs.Nodup)
    (hobj : fs.map (fun j => H[j]?) = hc.map (fun o => some (renO (fsf fs) o))) (hlow : lowH fs.length hc = true) (hargs : first ++ (as.map ρ ++ cap) = renL (fsf fs) args) (hla : lowL fs.length args = true) :
    OpR P E o ρ H (fun v H' => ∃ r h', Q r h' ∧ h'.length = hc.length ∧ v = ren (fsf fs) r ∧ H' = updH H fs (h'.map (renO (fsf fs)))) := by
  intro G a w hw hr
  have hlen : fs.length = hc.length := by have := congrArg List.length hobj; simpa using this
  have hobj' : ∀ i, i < fs.length → H[fsf fs i]? = (hc[i]?).map (renO (fsf fs)) := by
    intro i hi
    have h1 := congrArg (fun l => l[i]?) hobj
    simp only [List.getElem?_map] at h1
    have h2 : fs[i]? = some (fsf fs i) := by unfold fsf; rw [List.getD_eq_getElem?_getD, List.getElem?_eq_getElem hi]; rfl
    have h3 : hc[i]? = some (hc[i]'(by omega)) := by simp [show i < hc.length by omega]
    rw [h2, h3] at h1
    simp only [Option.map_some, Option.some.injEq] at h1
    rw [h1, h3]; rfl
  have hf' : RepA G (ρ f) (a.eval f) := hr f (by simp [ho, Op.operands, Call.operands])
  have has : ∀ x, x ∈ as → RepA G (ρ x) (a.eval x) := fun x hx => hr x (by simp [ho, Op.operands, Call.operands, hx])
  rw [hf] at hf'
  generalize hfv : a.eval f = fv at hf'
  cases hf' with
  | fn _ fvs cvs h1 h2 h3 h4 =>
  obtain ⟨fn, k1, k2, k3⟩ := S.1
  have k2' : ¬ fn.name = "runtime.NumGoroutine" := by simpa using k2
  have k3' : ¬ fn.body = none := by intro hh; rw [hh] at k3; cases k3
  have hrun : (execOp a.eval o).run P w = .ok (.enter g (fvs ++ (as.map a.eval).toArray ++ cvs)) w := by
    unfold execOp
    simp [ho, resolve, hfv, Deferred.ofValue, invoke, callFunc, k1, k2', k3']
  unfold Oper.wp
  rw [hrun]
  have hcf := call_frame S hnd hlen hobj' hlow hargs hla hw (vals := fvs ++ (as.map a.eval).toArray ++ cvs) (by simp [h1, h2]) (fun j x v hx hv => by
    rw [← List.append_assoc] at hx
    have hv' : (fvs.toList ++ (as.map a.eval) ++ cvs.toList)[j]? = some v := by
      rw [← Array.getElem?_toList] at hv
      simpa using hv
    by_cases hj1 : j < first.length
    · rw [List.append_assoc, List.getElem?_append_left (by simpa using hj1)] at hx
      rw [List.append_assoc, List.getElem?_append_left (by simp [h1]; exact hj1)] at hv'
      exact h3 j x v hx (by simpa using hv')
    · by_cases hj2 : j < first.length + as.length
      · rw [List.getElem?_append_left (by simp; omega), List.getElem?_append_right (by omega)] at hx
        rw [List.getElem?_append_left (by simp [h1]; omega), List.getElem?_append_right (by simp [h1]; omega)] at hv'
        simp only [Array.length_toList, h1] at hv'
        rw [List.getElem?_map, Option.map_eq_some_iff] at hx hv'
        obtain ⟨y, hy, rfl⟩ := hx
        obtain ⟨z, hz, rfl⟩ := hv'
        rw [hy] at hz; cases hz
        exact has y (List.mem_of_getElem? hy)
      · rw [List.getElem?_append_right (by simp; omega)] at hx
        rw [List.getElem?_append_right (by simp [h1]; omega)] at hv'
        simp only [List.length_append, Array.length_toList, h1, List.length_map] at hx hv'
        exact h4 _ x v hx (by simpa using hv'))
  refine hcf.mono ?_
  rintro e w' ⟨v, r, h', G', rfl, q1, q2, q3, q4, q5⟩
  exact ⟨v, G', ren (fsf fs) r, _, ⟨r, h', q1, q2, rfl, rfl⟩, rfl, q3, q5, q4⟩

/-- A call whose outcome is told exactly. -/
theorem callS {o : Oper} {ρ : Operand → AV} {H : List AObj} {f : Operand} {as : List Operand} {ats : Array TypeId} {g : FuncId} {first cap : List AV} (ho : o.op = .call ⟨.value f, as.toArray, ats⟩) (hf : ρ f = .fn (.func g) first cap)
    {args : List AV} {hc h0 : List AObj} {r0 : AV} (S : Spec P g args hc (fun r h' => r = r0 ∧ h' = h0)) (fs : List Nat) (hnd : fs.Nodup)
    (hobj : fs.map (fun j => H[j]?) = hc.map (fun o => some (renO (fsf fs) o))) (hlow : lowH fs.length hc = true) (hargs : first ++ (as.map ρ ++ cap) = renL (fsf fs) args) (hla : lowL fs.length args = true)
    {v : AV} {H' : List AObj} (hv : ren (fsf fs) r0 = v) (hH : updH H fs (h0.map (renO (fsf fs))) = H') : OpS P E o ρ H v H' := by
  intro G a w hw hr
  refine wp_mono2 ?_ (callR ho hf S fs hnd hobj hlow hargs hla G a w hw hr)
  rintro a' w' ⟨u, G', v', h', ⟨r, h'', ⟨rfl, rfl⟩, k2, rfl, rfl⟩, h1, h2, h3, h4⟩
  subst hv; subst hH
  exact ⟨u, G', h1, h2, h3, h4⟩

/-- A call without objects. -/
theorem callS0 {o : Oper} {ρ : Operand → AV} {H : List AObj} {f : Operand} {as : List Operand} {ats : Array TypeId} {g : FuncId} {first cap : List AV} (ho : o.op = .call ⟨.value f, as.toArray, ats⟩) (hf : ρ f = .fn (.func g) first cap)
    {args : List AV} {r0 : AV} (S : Spec P g args [] (fun r h' => r = r0 ∧ h' = [])) (hargs : first ++ (as.map ρ ++ cap) = args) (hla : lowL 0 args = true) (hr0 : low 0 r0 = true) : OpS P E o ρ H r0 H :=
  callS ho hf S [] (List.nodup_nil) rfl rfl (by rw [hargs, renL_low _ _ hla]) hla (ren_low _ _ hr0) rfl

theorem callR0 {o : Oper} {ρ : Operand → AV} {H : List AObj} {f : Operand} {as : List Operand} {ats : Array TypeId} {g : FuncId} {first cap : List AV} (ho : o.op = .call ⟨.value f, as.toArray, ats⟩) (hf : ρ f = .fn (.func g) first cap)
    {args : List AV} {Q : AV → Prop} (S : Spec P g args [] (fun r _ => Q r ∧ low 0 r = true)) (hargs : first ++ (as.map ρ ++ cap) = args) (hla : lowL 0 args = true) : OpR P E o ρ H (fun v H' => Q v ∧ H' = H) := by
  intro G a w hw hr
  refine wp_mono2 ?_ (callR ho hf S [] List.nodup_nil rfl rfl (by rw [hargs, renL_low _ _ hla]) hla G a w hw hr)
  rintro a' w' ⟨u, G', v', h', ⟨r, h'', ⟨k0, k1⟩, k2, rfl, rfl⟩, h1, h2, h3, h4⟩
  rw [ren_low _ _ k1] at h4
  have hu : updH H [] (h''.map (renO (fsf []))) = H := by cases h'' <;> rfl
  rw [hu] at h3
  exact ⟨u, G', r, _, ⟨k0, rfl⟩, h1, h2, h3, h4⟩

/-! ### a state told with less -/

/-- Every concrete value that fits x fits y. -/
def AV.le (x y : AV) : Prop := ∀ G v, RepA G x v → RepA G y v

theorem AV.le.refl (x : AV) : AV.le x x := fun _ _ h => h
theorem AV.le.any (x : AV) : AV.le x .any := fun _ v _ => .any v
theorem AV.le.eq {x y : AV} (h : x = y) : AV.le x y := h ▸ AV.le.refl x
theorem AV.le.dat {sz : Nat} {es : List (List Dat)} {tok : Tok} : AV.le (.sl sz es tok) (.d (.sl sz es)) := fun _ _ h => by cases h with | sl r _ => exact .d r
theorem AV.le.tok {sz : Nat} {es : List (List Dat)} {tok : Tok} : AV.le (.sl sz es tok) (.sl sz es .none) := fun _ _ h => by cases h with | sl r _ => exact .sl r trivial
theorem AV.le.nils {sz : Nat} : AV.le .nils (.d (.sl sz [])) := fun _ _ h => by cases h; exact .d (.nil sz)
theorem AV.le.nilsf {sz : Nat} : AV.le .nils (.sl sz [] .full) := fun _ _ h => by cases h; exact .sl (.nil sz) ⟨none, rfl⟩
theorem AV.le.trans {x y z : AV} (h : AV.le x y) (k : AV.le y z) : AV.le x z := fun G v r => k G v (h G v r)
theorem AV.le.gd {b : Bool} {x : AV} (hb : b = true) : AV.le (.gd b x) x := fun _ _ h => h.gd_inv hb

def AllLe : List AV → List AV → Prop
  | [], [] => True
  | x :: l, y :: r => AV.le x y ∧ AllLe l r
  | _, _ => False

theorem AllLe_at : ∀ {l r : List AV}, AllLe l r → l.length = r.length ∧ ∀ (j : Nat) (y : AV), r[j]? = some y → ∃ x, l[j]? = some x ∧ AV.le x y
  | [], [], _ => ⟨rfl, fun j y h => by simp at h⟩
  | x :: l, y :: r, h => by
    obtain ⟨h1, h2⟩ := AllLe_at h.2
    refine ⟨by simp [h1], fun j z hz => ?_⟩
    cases j with
    | zero => simp at hz; subst hz; exact ⟨x, by simp, h.1⟩
    | succ j => obtain ⟨u, hu, hl⟩ := h2 j z (by simpa using hz); exact ⟨u, by simpa using hu, hl⟩
  | [], _ :: _, h => h.elim
  | _ :: _, [], h => h.elim

theorem AllLe.refl : ∀ (l : List AV), AllLe l l
  | [] => trivial
  | x :: l => ⟨.refl x, AllLe.refl l⟩

theorem AV.le.agg {l r : List AV} (h : AllLe l r) : AV.le (.agg l) (.agg r) := by
  intro G v hv
  obtain ⟨h1, h2⟩ := AllLe_at h
  generalize hx : AV.agg l = x at hv
  cases hv <;> cases hx
  rename_i vs k3 k1 k2
  refine .agg vs (by rw [k1, h1]) (fun j y u hy hu => ?_) k3
  obtain ⟨x, hx, hl⟩ := h2 j y hy
  exact hl _ _ (k2 j x u hx hu)

theorem AV.le.tup {l r : List AV} (h : AllLe l r) : AV.le (.tup l) (.tup r) := by
  intro G v hv
  obtain ⟨h1, h2⟩ := AllLe_at h
  generalize hx : AV.tup l = x at hv
  cases hv <;> cases hx
  rename_i vs k1 k2
  refine .tup vs (by rw [k1, h1]) (fun j y u hy hu => ?_)
  obtain ⟨x, hx, hl⟩ := h2 j y hy
  exact hl _ _ (k2 j x u hx hu)

/-- The slots of a list, told by another list. -/
def SubL (τ : Nat → AV) : List (Nat × AV) → Prop
  | [] => True
  | p :: l => AV.le (τ p.1) p.2 ∧ SubL τ l

theorem SubL_look {τ : Nat → AV} : ∀ {l : List (Nat × AV)}, SubL τ l → ∀ t, AV.le (τ t) (look l t)
  | [], _, t => .any _
  | (d, v) :: l, h, t => by
    show AV.le (τ t) (bif Nat.beq t d then v else look l t)
    cases hb : Nat.beq t d with
    | true => obtain rfl := Nat.eq_of_beq_eq_true hb; exact h.1
    | false => exact SubL_look h.2 t

def ObLe : AObj → AObj → Prop
  | .row l, .row r => AllLe l r
  | .buf sz n l, .buf sz' n' r => sz = sz' ∧ n = n' ∧ AllLe l r
  | .right sz n, .right sz' n' => sz = sz' ∧ n = n'
  | _, .dead => True
  | .room, .room => True
  | _, _ => False

def HLe : List AObj → List AObj → Prop
  | [], [] => True
  | x :: l, y :: r => ObLe x y ∧ HLe l r
  | _, _ => False

theorem HLe_at : ∀ {l r : List AObj}, HLe l r → l.length = r.length ∧ ∀ (j : Nat) (y : AObj), r[j]? = some y → ∃ x, l[j]? = some x ∧ ObLe x y
  | [], [], _ => ⟨rfl, fun j y h => by simp at h⟩
  | x :: l, y :: r, h => by
    obtain ⟨h1, h2⟩ := HLe_at h.2
    refine ⟨by simp [h1], fun j z hz => ?_⟩
    cases j with
    | zero => simp at hz; subst hz; exact ⟨x, by simp, h.1⟩
    | succ j => obtain ⟨u, hu, hl⟩ := h2 j z (by simpa using hz); exact ⟨u, by simpa using hu, hl⟩
  | [], _ :: _, h => h.elim
  | _ :: _, [], h => h.elim

theorem ObLe.refl (o : AObj) : ObLe o o := by cases o <;> simp [ObLe, AllLe.refl]
theorem HLe.refl : ∀ (h : List AObj), HLe h h
  | [] => trivial
  | o :: l => ⟨ObLe.refl o, HLe.refl l⟩

theorem ObjRel.le {G : Gh} {w : World} {i : Nat} {o o' : AObj} (h : ObLe o o') (hr : ObjRel G w i o) : ObjRel G w i o' := by
  cases o' with
  | dead => trivial
  | row r =>
    cases o with
    | row l =>
      obtain ⟨b, h1, h2, h3, h4⟩ := hr
      refine ⟨b, h1, h2, fun j c hj => ?_, h4⟩
      obtain ⟨x, hx, hl⟩ := (AllLe_at h).2 j c hj
      obtain ⟨v, q1, q2, q3, q4⟩ := h3 j x hx
      exact ⟨v, q1, q2, hl _ _ q3, q4⟩
    | _ => exact h.elim
  | buf sz n r =>
    cases o with
    | buf sz' n' l =>
      obtain ⟨rfl, rfl, h⟩ := h
      obtain ⟨a, cap, h1, h2, h3⟩ := hr
      refine ⟨a, cap, h1, h2, h3.trans (AllLe_at h).1.symm (fun b hb => ⟨hb, rfl, fun x _ hn => hn⟩) (fun j c hj => ?_)⟩
      obtain ⟨x, hx, hl⟩ := (AllLe_at h).2 j c hj
      exact ⟨x, hx, fun v hv => hl _ _ hv⟩
    | _ => exact h.elim
  | right sz n =>
    cases o with
    | right sz' n' => obtain ⟨rfl, rfl⟩ := h; exact hr
    | _ => exact h.elim
  | room =>
    cases o with
    | room => exact hr
    | _ => exact h.elim

theorem Rel_sub {N : Nat} {τ : Nat → AV} {l : List (Nat × AV)} {h h' : List AObj} (hs : SubL τ l) (hh : HLe h h') : ∀ a w, Rel E N τ h a w → Rel E N (look l) h' a w := by
  rintro a w ⟨h1, h2, G, hw, ht⟩
  refine ⟨h1, h2, G, ⟨hw.le, hw.imm, hw.immNew, hw.keep, hw.size, hw.os, hw.tape, hw.output, hw.own, fun i hi => hw.fresh i (by rw [(HLe_at hh).1]; exact hi), fun i o hi => ?_⟩, fun t => SubL_look hs t _ _ (ht t)⟩
  obtain ⟨x, hx, hl⟩ := (HLe_at hh).2 i o hi
  exact (hw.obj i x hx).le hl

/-- Objects at the heap's end are forgotten. -/
def lowS (k : Nat) : List (Nat × AV) → Bool
  | [] => true
  | p :: l => low k p.2 && lowS k l

theorem lowS_look {k : Nat} : ∀ {l : List (Nat × AV)}, lowS k l = true → ∀ t, low k (look l t) = true
  | [], _, t => rfl
  | (d, v) :: l, h, t => by
    simp only [lowS, Bool.and_eq_true] at h
    show low k (bif Nat.beq t d then v else look l t) = true
    cases hb : Nat.beq t d with
    | true => exact h.1
    | false => exact lowS_look h.2 t

theorem Rel_cut {N : Nat} {τ : Nat → AV} {l : List (Nat × AV)} {h h' junk : List AObj} (hb : E.below h'.length) (hs : SubL τ l) (hls : lowS h'.length l = true) (hh : HLe h (h' ++ junk)) (hlh : lowH h'.length h' = true) : ∀ a w, Rel E N τ h a w → Rel E N (look l) h' a w := by
  intro a w hr
  obtain ⟨h1, h2, G, hw, ht⟩ := Rel_sub (l := l) hs hh a w hr
  refine ⟨h1, h2, cutG h'.length G, hw.cut hb rfl (fun i hi => by rw [List.getElem?_append_left hi]) hlh, fun t => (ht t).cut (lowS_look hls t)⟩

theorem Env.below_mono {k k' : Nat} (h : E.below k) (hk : k ≤ k') : E.below k' := fun i hi => h i (by omega)

/-- The spare room of a slice that has none becomes an object, so that appends to it can be told alike. -/
theorem Rel_acquire {N : Nat} {l : List (Nat × AV)} {h : List AObj} {t sz : Nat} {es : List (List Dat)} (ht : look l t = .sl sz es .full ∨ (look l t = .nils ∧ es = [])) :
    ∀ a w, Rel E N (look l) h a w → Rel E N (look ((t, .sl sz es (.right h.length)) :: l)) (h ++ [.right sz es.length]) a w := by
  rintro a w ⟨h1, h2, G, hw, hr⟩
  have hv := hr t
  obtain ⟨p, hv', hrep⟩ : ∃ p, a.tmps.getD t undef = .slice p es.length es.length ∧ RepD G.imm (.sl sz es) (a.tmps.getD t undef) := by
    rcases ht with ht | ⟨ht, rfl⟩
    · rw [ht] at hv
      generalize a.tmps.getD t undef = u at hv
      cases hv with
      | sl r k => obtain ⟨p, rfl⟩ := k; exact ⟨p, rfl, r⟩
    · rw [ht] at hv
      generalize a.tmps.getD t undef = u at hv
      cases hv
      exact ⟨none, rfl, .nil _⟩
  have hf := hw.fresh h.length (Nat.le_refl _)
  let G' : Gh := { G with rt := fun i n => if i = h.length ∧ n = es.length then some (p, es.length) else G.rt i n }
  have hle : G.le G' := ⟨fun _ _ x => x, fun _ _ x => x, fun i n x hx => by
    show (if i = h.length ∧ n = es.length then _ else G.rt i n) = some x
    rw [if_neg (by rintro ⟨rfl, _⟩; rw [hf.2 n] at hx; cases hx)]; exact hx, fun _ _ x => x⟩
  refine ⟨h1, h2, G', ⟨hw.le.trans hle, hw.imm, hw.immNew, hw.keep, hw.size, hw.os, hw.tape, hw.output, hw.own, fun i hi => ?_, fun i o hi => ?_⟩, fun t' => ?_⟩
  · simp only [List.length_append, List.length_cons, List.length_nil] at hi
    have := hw.fresh i (by omega)
    exact ⟨this.1, fun n => by show (if i = h.length ∧ n = es.length then _ else G.rt i n) = none; rw [if_neg (by omega)]; exact this.2 n⟩
  · by_cases hlt : i < h.length
    · rw [List.getElem?_append_left hlt] at hi
      refine (hw.obj i o hi).keep hle (fun b _ => ⟨rfl, fun _ _ => rfl⟩) (fun n hn => ?_) (fun hn => hn)
      show (if i = h.length ∧ n = es.length then _ else G.rt i n) = none
      rw [if_neg (by omega)]; exact hn
    · rw [List.getElem?_append_right (by omega)] at hi
      have hi0 : i - h.length = 0 := by have := (List.getElem?_eq_some_iff.1 hi).1; simp at this; omega
      rw [hi0] at hi
      simp at hi
      subst hi
      obtain rfl : i = h.length := by omega
      refine ⟨p, es.length, ?_, Nat.le_refl _, fun n' hn => ?_, fun hlt => by omega⟩
      · show (if h.length = h.length ∧ es.length = es.length then _ else _) = _; simp
      · show (if h.length = h.length ∧ n' = es.length then _ else G.rt _ n') = none
        rw [if_neg (by omega)]; exact hf.2 n'
  · show RepA G' (bif Nat.beq t' t then _ else look l t') _
    cases hb : Nat.beq t' t with
    | true =>
      obtain rfl := Nat.eq_of_beq_eq_true hb
      refine .sl (hrep.mono hle.imm) ⟨p, es.length, hv', ?_⟩
      show (if h.length = h.length ∧ es.length = es.length then _ else _) = _; simp
    | false => exact (hr t').mono hle
end

/-- Room for an object to come. -/
theorem Rel_room {E : Env} {N : Nat} {τ : Nat → AV} {h : List AObj} : ∀ a w, Rel E N τ h a w → Rel E N τ (h ++ [.room]) a w := by
  rintro a w ⟨h1, h2, G, hw, ht⟩
  refine ⟨h1, h2, G, ⟨hw.le, hw.imm, hw.immNew, hw.keep, hw.size, hw.os, hw.tape, hw.output, hw.own, fun i hi => hw.fresh i (by simp at hi; omega), fun i o hi => ?_⟩, ht⟩
  by_cases hlt : i < h.length
  · rw [List.getElem?_append_left hlt] at hi; exact hw.obj i o hi
  · rw [List.getElem?_append_right (by omega)] at hi
    have hi0 : i - h.length = 0 := by have := (List.getElem?_eq_some_iff.1 hi).1; simp at this; omega
    rw [hi0] at hi
    simp at hi
    subst hi
    exact hw.fresh i (by omega)

def acqG (G : Gh) (i n : Nat) (p : Option Addr) : Gh :=
  { G with rt := fun j m => if j = i ∧ m = n then some (p, n) else G.rt j m }

theorem WRel.acquire {E : Env} {G : Gh} {h : List AObj} {w : World} {i sz : Nat} {es : List (List Dat)} {p : Option Addr} (hw : WRel E G h w) (hi : h[i]? = some .room) (hrep : RepD G.imm (.sl sz es) (.slice p es.length es.length)) :
    G.le (acqG G i es.length p) ∧ WRel E (acqG G i es.length p) (h.set i (.right sz es.length)) w ∧ RepA (acqG G i es.length p) (.sl sz es (.right i)) (.slice p es.length es.length) := by
  have hro := hw.obj i _ hi
  have hle : G.le (acqG G i es.length p) := ⟨fun _ _ x => x, fun _ _ x => x, fun j m x hx => by
    show (if j = i ∧ m = es.length then _ else G.rt j m) = some x
    rw [if_neg (by rintro ⟨rfl, rfl⟩; rw [hro.2] at hx; cases hx)]; exact hx, fun _ _ x => x⟩
  refine ⟨hle, ⟨hw.le.trans hle, hw.imm, hw.immNew, hw.keep, hw.size, hw.os, hw.tape, hw.output, hw.own, fun j hj => ?_, fun j o hj => ?_⟩, .sl (hrep.mono hle.imm) ⟨p, es.length, rfl, ?_⟩⟩
  · simp only [List.length_set] at hj
    have := hw.fresh j hj
    have hil := (List.getElem?_eq_some_iff.1 hi).1
    exact ⟨this.1, fun n => by show (if j = i ∧ n = es.length then _ else G.rt j n) = none; rw [if_neg (by omega)]; exact this.2 n⟩
  · rw [List.getElem?_set] at hj
    split at hj
    · rename_i e; subst e
      split at hj
      · cases hj
        refine ⟨p, es.length, ?_, Nat.le_refl _, fun n' hn => ?_, fun hlt => by omega⟩
        · show (if i = i ∧ es.length = es.length then _ else _) = _; simp
        · show (if i = i ∧ n' = es.length then _ else G.rt i n') = none
          rw [if_neg (by omega)]; exact hro.2 n'
      · cases hj
    · rename_i e
      refine (hw.obj j o hj).keep hle (fun b _ => ⟨rfl, fun _ _ => rfl⟩) (fun n hn => ?_) (fun hn => hn)
      show (if j = i ∧ n = es.length then _ else G.rt j n) = none
      rw [if_neg (by rintro ⟨rfl, _⟩; exact e rfl)]; exact hn
  · show (if i = i ∧ es.length = es.length then _ else _) = _; simp

open Classical in
/-- An append to a slice without spare room, whose result may be appended to again. -/
theorem append_room {P : Program} {E : Env} {T : Tr} {o : Oper} {ρ : Operand → AV} {h : List AObj} (hT : TOk P T) {t t2 sz by_ i : Nat} {s x : Operand} {es es2 : List (List Dat)} (ho : o.op = .call { callee := .builtin .append, args := #[s, x], argTypes := #[t, t2] })
    (ht : appT T t = some (sz, by_)) (ht2 : srcT T t2 = true) (hs : ρ s = .sl sz es .full ∨ (ρ s = .nils ∧ es = [])) (hsx : s ≠ x) (hi : h[i]? = some .room) (hx : asNew sz (ρ x) = some es2)
    (hb : (es.length + es2.length) * (by_ + 1) ≤ 140737488355328) :
    OpS P E o ρ h (.sl sz (es ++ es2) (.right i)) (h.set i (.right sz (es.length + es2.length))) := by
  intro G a w hw hr
  have hs' : RepA G (ρ s) (a.eval s) := hr s (by simp [ho, Op.operands, Call.operands])
  obtain ⟨p, hv', hrep⟩ : ∃ p, a.eval s = .slice p es.length es.length ∧ RepD G.imm (.sl sz es) (a.eval s) := by
    rcases hs with ht | ⟨ht, rfl⟩
    · rw [ht] at hs'
      generalize a.eval s = u at hs'
      cases hs' with
      | sl r k => obtain ⟨p, rfl⟩ := k; exact ⟨p, rfl, r⟩
    · rw [ht] at hs'
      generalize a.eval s = u at hs'
      cases hs'
      exact ⟨none, rfl, .nil _⟩
  rw [hv'] at hrep
  obtain ⟨hle, hw1, hrs⟩ := hw.acquire hi hrep
  have hil := (List.getElem?_eq_some_iff.1 hi).1
  have hstep := append_right (P := P) (E := E) (T := T) (o := o) (ρ := fun y => if y = s then .sl sz es (.right i) else ρ y) (h := h.set i (.right sz es.length)) hT ho ht ht2 (if_pos rfl) (by simp [hil])
    (by show asNew sz (if x = s then _ else ρ x) = some es2; rw [if_neg (fun hh => hsx hh.symm)]; exact hx) hb
  have := hstep (acqG G i es.length p) a w hw1 (fun y hy => by
    show RepA _ (if y = s then _ else ρ y) _
    split
    · rename_i e; subst e; rw [hv']; exact hrs
    · exact (hr y hy).mono hle)
  refine wp_mono2 ?_ this
  rintro a' w' ⟨u, G', k1, k2, k3, k4⟩
  refine ⟨u, G', k1, hle.trans k2, ?_, k4⟩
  rwa [List.set_set] at k3

/-- A slice without spare room, told as one that may be appended to. -/
theorem Rel_acquireAt {E : Env} {N : Nat} {l : List (Nat × AV)} {h : List AObj} {t sz i : Nat} {es : List (List Dat)} (ht : look l t = .sl sz es .full ∨ (look l t = .nils ∧ es = [])) (hi : h[i]? = some .room) :
    ∀ a w, Rel E N (look l) h a w → Rel E N (look ((t, .sl sz es (.right i)) :: l)) (h.set i (.right sz es.length)) a w := by
  rintro a w ⟨h1, h2, G, hw, hr⟩
  have hv := hr t
  obtain ⟨p, hv', hrep⟩ : ∃ p, a.tmps.getD t undef = .slice p es.length es.length ∧ RepD G.imm (.sl sz es) (a.tmps.getD t undef) := by
    rcases ht with ht | ⟨ht, rfl⟩
    · rw [ht] at hv
      generalize a.tmps.getD t undef = u at hv
      cases hv with
      | sl r k => obtain ⟨p, rfl⟩ := k; exact ⟨p, rfl, r⟩
    · rw [ht] at hv
      generalize a.tmps.getD t undef = u at hv
      cases hv
      exact ⟨none, rfl, .nil _⟩
  rw [hv'] at hrep
  obtain ⟨hle, hw1, hrs⟩ := hw.acquire hi hrep
  refine ⟨h1, h2, _, hw1, fun t' => ?_⟩
  show RepA _ (bif Nat.beq t' t then _ else look l t') _
  cases hb : Nat.beq t' t with
  | true =>
    obtain rfl := Nat.eq_of_beq_eq_true hb
    rw [hv']; exact hrs
  | false => exact (hr t').mono hle

/-! a callee that is handed the whole heap -/
theorem fsf_range {k i : Nat} (h : i < k) : fsf (List.range k) i = i := by
  unfold fsf
  rw [List.getD_eq_getElem?_getD, List.getElem?_range h]; rfl

mutual
theorem ren_lowk {k : Nat} {f : Nat → Nat} (hf : ∀ i, i < k → f i = i) : ∀ (x : AV), low k x = true → ren f x = x
  | .d x, _ => rfl
  | .sl sz es tok, h => by
    cases tok with
    | right i => simp [ren, renT, hf i (blt_lt h)]
    | none => rfl
    | full => rfl
  | .nils, _ => rfl
  | .ptr i off, h => by simp [ren, hf i (blt_lt h)]
  | .iptr cs, _ => rfl
  | .nilp, _ => rfl
  | .row i off n cap, h => by simp [ren, hf i (blt_lt h)]
  | .bm i n, h => by simp [ren, hf i (blt_lt h)]
  | .bp i n m, h => by simp [ren, hf i (blt_lt h)]
  | .fn g a b, h => by simp [low] at h; simp [ren, renL_lowk hf a h.1, renL_lowk hf b h.2]
  | .nilf, _ => rfl
  | .agg cs, h => by simp [low] at h; simp [ren, renL_lowk hf cs h]
  | .tup vs, h => by simp [low] at h; simp [ren, renL_lowk hf vs h]
  | .gd b v, h => by simp [low] at h; simp [ren, ren_lowk hf v h]
  | .any, _ => rfl
theorem renL_lowk {k : Nat} {f : Nat → Nat} (hf : ∀ i, i < k → f i = i) : ∀ (l : List AV), lowL k l = true → renL f l = l
  | [], _ => rfl
  | a :: l, h => by simp [lowL] at h; simp [renL, ren_lowk hf a h.1, renL_lowk hf l h.2]
end

theorem renO_lowk {k : Nat} {f : Nat → Nat} (hf : ∀ i, i < k → f i = i) (o : AObj) (h : lowO k o = true) : renO f o = o := by
  cases o with
  | row cells => simp [renO, renL_lowk hf cells h]
  | buf sz n cells => simp [renO, renL_lowk hf cells h]
  | right sz n => rfl
  | dead => rfl
  | room => rfl

theorem renH_lowk {k : Nat} {f : Nat → Nat} (hf : ∀ i, i < k → f i = i) : ∀ (l : List AObj), lowH k l = true → l.map (renO f) = l
  | [], _ => rfl
  | a :: l, h => by simp [lowH] at h; simp [renO_lowk hf a h.1, renH_lowk hf l h.2]

theorem updH_range (h os : List AObj) (hl : os.length = h.length) : updH h (List.range h.length) os = os := by
  apply List.ext_getElem?
  intro j
  by_cases hj : j < h.length
  · have ho : os[j]? = some (os[j]'(by omega)) := by simp [show j < os.length by omega]
    have := updH_at (List.range h.length) os h j _ List.nodup_range ho (by simpa using hj) (by rw [fsf_range hj]; exact hj)
    rw [fsf_range hj] at this
    rw [this, ho]
  · rw [List.getElem?_eq_none (by rw [updH_length]; omega), List.getElem?_eq_none (by omega)]

theorem callSame {P : Program} {E : Env} {o : Oper} {ρ : Operand → AV} {H : List AObj} {f : Operand} {as : List Operand} {ats : Array TypeId} {g : FuncId} {first cap : List AV} (ho : o.op = .call ⟨.value f, as.toArray, ats⟩) (hf : ρ f = .fn (.func g) first cap)
    {args : List AV} {Q : AV → List AObj → Prop} (S : Spec P g args H (fun r h' => Q r h' ∧ low H.length r = true ∧ lowH H.length h' = true)) (hlow : lowH H.length H = true) (hargs : first ++ (as.map ρ ++ cap) = args) (hla : lowL H.length args = true) : OpR P E o ρ H Q := by
  intro G a w hw hr
  have hf' : ∀ i, i < H.length → fsf (List.range H.length) i = i := fun i hi => fsf_range hi
  have hobj : (List.range H.length).map (fun j => H[j]?) = H.map (fun o => some (renO (fsf (List.range H.length)) o)) := by
    have h1 : H.map (fun o => some (renO (fsf (List.range H.length)) o)) = (H.map (renO (fsf (List.range H.length)))).map some := by simp
    rw [h1, renH_lowk hf' H hlow]
    apply List.ext_getElem?
    intro j
    by_cases hj : j < H.length
    · simp [hj]
    · simp [List.getElem?_eq_none (Nat.le_of_not_lt hj)]
      omega
  refine wp_mono2 ?_ (callR ho hf S (List.range H.length) List.nodup_range hobj (by simpa using hlow) (by rw [hargs, renL_lowk hf' _ hla]) (by simpa using hla) G a w hw hr)
  rintro a' w' ⟨u, G', v', h', ⟨r, h'', ⟨k0, k1, k2⟩, k3, rfl, rfl⟩, h1, h2, h3, h4⟩
  rw [renH_lowk hf' h'' k2, updH_range H h'' k3] at h3
  rw [ren_lowk hf' r k1] at h4
  exact ⟨u, G', r, h'', k0, h1, h2, h3, h4⟩

/-! ### rules in terms of lists -/
section
variable {P : Program} {E : Env} {N : Nat} {Q : Exit → (Nat → AV) → List AObj → Prop} {τ : Nat → AV} {h : List AObj}

theorem AW_loopL {c : Code} {ι : Type} (S : ι → List (Nat × AV)) (H : ι → List AObj) (inv : ι → Prop) (μ : ι → Nat) (x0 : ι) (h0 : inv x0) (hs : SubL τ (S x0)) (hh : HLe h (H x0))
    (round : ∀ x, inv x → AW P E N c (thenA (fun τ' h' => ∃ y, inv y ∧ μ y < μ x ∧ SubL τ' (S y) ∧ HLe h' (H y)) Q) (look (S x)) (H x)) : AW P E N (.loop c) Q τ h :=
  AW_loop (fun x => look (S x)) H inv μ x0 h0 (Rel_sub hs hh) fun x hx => AW_mono (round x hx) fun e τ' h' hq => by
    cases e with
    | normal => obtain ⟨y, h1, h2, h3, h4⟩ := hq; exact ⟨y, h1, h2, Rel_sub h3 h4⟩
    | _ => exact hq

/-- The same for rounds that make objects of their own: they are forgotten at the round's end. -/
theorem AW_loopC {c : Code} {ι : Type} (S : ι → List (Nat × AV)) (H : ι → List AObj) (inv : ι → Prop) (μ : ι → Nat) (x0 : ι) (h0 : inv x0) (hs : SubL τ (S x0)) (hh : HLe h (H x0))
    (round : ∀ x, inv x → AW P E N c (thenA (fun τ' h' => ∃ y junk, inv y ∧ μ y < μ x ∧ SubL τ' (S y) ∧ HLe h' (H y ++ junk) ∧ E.below (H y).length ∧ lowS (H y).length (S y) = true ∧ lowH (H y).length (H y) = true) Q) (look (S x)) (H x)) : AW P E N (.loop c) Q τ h :=
  AW_loop (fun x => look (S x)) H inv μ x0 h0 (Rel_sub hs hh) fun x hx => AW_mono (round x hx) fun e τ' h' hq => by
    cases e with
    | normal => obtain ⟨y, junk, h1, h2, h3, h4, h5, h6, h7⟩ := hq; exact ⟨y, h1, h2, Rel_cut h5 h3 h6 h4 h7⟩
    | _ => exact hq

theorem AW_subL {c : Code} {l : List (Nat × AV)} {h' : List AObj} (hs : SubL τ l) (hh : HLe h h') (hc : AW P E N c Q (look l) h') : AW P E N c Q τ h := AW_sub (Rel_sub hs hh) hc

theorem AW_acquire {c : Code} {l : List (Nat × AV)} (t sz : Nat) {es : List (List Dat)} (ht : look l t = .sl sz es .full ∨ (look l t = .nils ∧ es = []))
    (hc : AW P E N c Q (look ((t, .sl sz es (.right h.length)) :: l)) (h ++ [.right sz es.length])) : AW P E N c Q (look l) h := AW_sub (Rel_acquire ht) hc

theorem AW_cut {c : Code} {l : List (Nat × AV)} (h' junk : List AObj) (hb : E.below h'.length) (hs : SubL τ l) (hls : lowS h'.length l = true) (hh : HLe h (h' ++ junk)) (hlh : lowH h'.length h' = true) (hc : AW P E N c Q (look l) h') : AW P E N c Q τ h :=
  AW_sub (Rel_cut hb hs hls hh hlh) hc

theorem AW_room {c : Code} (hc : AW P E N c Q τ (h ++ [.room])) : AW P E N c Q τ h := AW_sub Rel_room hc

theorem AW_acquireAt {c : Code} {l : List (Nat × AV)} (t sz i : Nat) {es : List (List Dat)} (ht : look l t = .sl sz es .full ∨ (look l t = .nils ∧ es = [])) (hi : h[i]? = some .room)
    (hc : AW P E N c Q (look ((t, .sl sz es (.right i)) :: l)) (h.set i (.right sz es.length))) : AW P E N c Q (look l) h := AW_sub (Rel_acquireAt ht hi) hc

/-- A cut between two pieces of code. -/
theorem AW_seq_cut {x y : Code} {ι : Type} (S : ι → List (Nat × AV)) (H : ι → List AObj) (inv : ι → Prop) (hx : AW P E N x (thenA (fun τ' h' => ∃ i, inv i ∧ SubL τ' (S i) ∧ HLe h' (H i)) Q) τ h) (hy : ∀ i, inv i → AW P E N y Q (look (S i)) (H i)) :
    AW P E N (.seq x y) Q τ h := by
  refine AW_seq (AW_mono hx fun e τ' h' hq => ?_)
  cases e with
  | normal => obtain ⟨i, h1, h2, h3⟩ := hq; exact AW_subL h2 h3 (hy i h1)
  | _ => exact hq

theorem AW_condL {c : Operand} {x y : Code} {b : Bool} (hc : ev τ c = .d (.bool b)) (ht : b = true → AW P E N x Q τ h) (hf : b = false → AW P E N y Q τ h) : AW P E N (.cond c x y) Q τ h :=
  AW_cond (fun G v => ofVal_ok G v) hc ht hf
end
end Tdoc
