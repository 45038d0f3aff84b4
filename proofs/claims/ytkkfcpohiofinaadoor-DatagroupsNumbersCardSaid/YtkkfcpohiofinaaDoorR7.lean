/- A longer slice made only for a call, whose spare room is used again: an append and a call as one step. No program is named here. -/
import Derived.Test.YtkkfcpohiofinaaDoorR6
set_option linter.unusedSimpArgs false
set_option linter.unusedVariables false
namespace Tdoc
open Go

theorem cell_block_lt {w : World} {a : Addr} {v : Value} (h : w.cell? a = some v) : a.block < w.heap.size := by
  by_cases hb : a.block < w.heap.size
  · exact hb
  · exfalso
    unfold World.cell? at h
    rw [Array.getElem?_eq_none (by omega)] at h
    simp at h

theorem WRel_grow {E : Env} {G : Gh} {h : List AObj} {w w' : World} (hw : WRel E G h w) (hb : ∀ b, b < w.heap.size → w'.heap[b]? = w.heap[b]?) (hs : w.heap.size ≤ w'.heap.size) (ho : w'.os = w.os) (ht : w'.tape = w.tape) (hu : w'.output = w.output) : WRel E G h w' := by
  refine ⟨hw.le, fun a v ha => ?_, hw.immNew, fun b hk => ?_, Nat.le_trans hw.size hs, ho.trans hw.os, ht.trans hw.tape, hu.trans hw.output, fun b i hb' => ⟨Nat.lt_of_lt_of_le (hw.own b i hb').1 hs, (hw.own b i hb').2⟩, hw.fresh, fun i o hi => ?_⟩
  · have h1 := hw.imm a v ha
    rw [World.cell?_of_block (w := w) (hb _ (cell_block_lt h1))]; exact h1
  · rw [hb b (Nat.lt_of_lt_of_le hk.1 hw.size)]; exact hw.keep b hk
  · exact (hw.obj i o hi).keep (.refl G) (fun b hb' => ⟨hb b (hw.own b i hb').1, fun a _ => rfl⟩) (fun n hn => hn) (fun hn => hn)

section
variable {P : Program} {T : Tr} {E : Env} {o : Oper} {ρ : Operand → AV} {h : List AObj}

/-- An append whose result is not told as a right: what is known of the objects is as before. -/
theorem tempAppend (hT : TOk P T) {t t2 sz by_ i : Nat} {s x : Operand} {es es2 : List (List Dat)} (ho : o.op = .call { callee := .builtin .append, args := #[s, x], argTypes := #[t, t2] })
    (ht : appT T t = some (sz, by_)) (ht2 : srcT T t2 = true) (hs : ρ s = .sl sz es (.right i)) (hi : h[i]? = some (.right sz es.length)) (hx : asNew sz (ρ x) = some es2) (hz : es2 ≠ [])
    (hb : (es.length + es2.length) * (by_ + 1) ≤ 140737488355328) (G : Gh) (e : Operand → Value) (w : World) (hw : WRel E G h w) (hr : ∀ x, x ∈ o.op.operands.toList → RepA G (ρ x) (e x)) :
    ∃ u w' m, (execOp e o).run P w = .ok (.value u) w' ∧ WRel E G h w' ∧ (∀ a v, G.imm a = some v → m a = some v) ∧ (∀ a v, m a = some v → w'.cell? a = some v) ∧ RepD m (.sl sz (es ++ es2)) u := by
  obtain ⟨u, w1, G1, hrun1, hle1, hw1, hu1⟩ := append_rightR hT ho ht ht2 hs hi hx hb G e w hw hr
  have hD : RepD G1.imm (.sl sz (es ++ es2)) u := by cases hu1 with | sl r _ => exact r
  refine ⟨u, w1, G1.imm, hrun1, ?_, hle1.imm, hw1.imm, hD⟩
  have hs' : RepA G (ρ s) (e s) := hr s (by simp [ho, Op.operands, Call.operands])
  have hx' : RepA G (ρ x) (e x) := hr x (by simp [ho, Op.operands, Call.operands])
  obtain ⟨et, ie, h1, h2, rfl, rfl, hzl⟩ := appT_ok hT ht
  obtain ⟨d2, h3, h4⟩ := srcT_ok hT ht2
  obtain ⟨hlen2, news, n1, n2, n3, n4⟩ := asNew_src (P := P) hw.imm hx' hx
  obtain ⟨a, cap, hsv, hrt, hrd⟩ : ∃ a cap, e s = .slice a es.length cap ∧ G.rt i es.length = some (a, cap) ∧ RepD G.imm (.sl ie.size es) (e s) := by
    rw [hs] at hs'
    generalize e s = u at hs'
    cases hs' with
    | sl r k => obtain ⟨a, cap, rfl, hk⟩ := k; exact ⟨a, cap, rfl, hk, r⟩
  obtain ⟨a', cap', hrt', hcap, hlater, hspare⟩ := hw.obj i _ hi
  rw [hrt] at hrt'; cases hrt'
  obtain ⟨olds, o1, o2, o3, o4⟩ := src_of_rep (P := P) hw.imm hrd
  have hex : (execOp e o).run P w = ((Builtin.append_ #[t, t2] o.type #[e s, e x]).run P w).andThen fun u w' => .ok (.value u) w' := by
    unfold execOp
    simp [ho, resolve, invoke, builtin]
  have hpos : 0 < es2.length := List.length_pos_iff.2 hz
  by_cases hfit : es.length + es2.length ≤ cap
  · obtain ⟨p, rfl, p1, p2, p3⟩ := hspare (by omega)
    have hm1 : (es.length + es2.length) * ie.size ≤ cap * ie.size := Nat.mul_le_mul_right _ hfit
    rw [Nat.add_mul] at hm1
    have hspot : (p.add (es.length * ie.size)).spot = none := add_spot p p1 _
    obtain ⟨w', q1, q2, q3, q4, q5, q6, q7, q8, q9⟩ := store_spare (P := P) hspot news 0 w n3 (fun k hk => by
      rw [Nat.zero_add, add_add p p1]
      obtain ⟨c1, c2, _⟩ := p3 (es.length * ie.size + k) (by omega) (by omega)
      exact ⟨c1, c2⟩)
    have hrun := run_append_in (ty := o.type) h1 h3 h4 h2 (w' := w') (a := some p) (n := es.length) (cap := cap) n1 hfit (by simpa using q1)
    have hww : w' = w1 := by
      rw [hex, hsv, hrun] at hrun1
      simp at hrun1
      exact hrun1.2
    subst hww
    refine ⟨hw.le, fun a v ha => hw1.imm a v (hle1.imm a v ha), hw.immNew, hw1.keep, hw1.size, hw1.os, hw1.tape, hw1.output, fun b j hb' => hw1.own b j (hle1.own b j hb'), hw.fresh, fun j ob hj => ?_⟩
    by_cases hij : i = j
    · subst hij
      rw [hi] at hj
      cases hj
      refine ⟨some p, cap, hrt, hcap, hlater, fun hlt => ⟨p, rfl, p1, p2, fun k hk1 hk2 => ?_⟩⟩
      obtain ⟨⟨v, c1⟩, c2, c3⟩ := p3 k hk1 hk2
      refine ⟨?_, by rw [q4]; exact c2, c3⟩
      by_cases hkn : k < es.length * ie.size + news.length
      · have hget : news[k - es.length * ie.size]? = some (news[k - es.length * ie.size]'(by omega)) := by simp [show k - es.length * ie.size < news.length by omega]
        have := q2 _ _ hget
        rw [Nat.zero_add, add_add p p1, show es.length * ie.size + (k - es.length * ie.size) = k by omega] at this
        exact ⟨_, this⟩
      · rw [q3 _ (fun k' hk' hh => by
          rw [Nat.zero_add, add_add p p1, add_off p p1, add_off p p1] at hh
          injection hh with _ h5 _
          omega)]
        exact ⟨v, c1⟩
    · refine (hw.obj j ob hj).keep (.refl G) (fun b hb' => ?_) (fun m hm => hm) (fun hn => hn)
      have hne : b ≠ p.block := fun hh => by subst hh; rw [p2] at hb'; cases hb'; exact hij rfl
      exact ⟨q5 b (by rw [add_block]; exact hne), fun a ha => rfl⟩
  · obtain ⟨newCap, rest, w', c1, c2, c3, c4, c5, c6, c7⟩ := run_append_out (ty := o.type) h1 h3 h4 h2 hsv o1 n1 (by omega) hb
    have hww : w' = w1 := by
      rw [hex, c2] at hrun1
      simp at hrun1
      exact hrun1.2
    subst hww
    exact WRel_grow hw (fun b hb' => by rw [c3]; exact heap_push_old _ _ _ hb') (by rw [c3]; simp) c5 c6 c7
end

/-! regions, part by part -/

def AWw (P : Program) (E : Env) (N : Nat) (ops : List Oper) (Q : Exit → (Nat → AV) → List AObj → Prop) (rest : List Oper) (τ : Nat → AV) (h : List AObj) : Prop :=
  ∀ (k : Nat) (a : Act) (w : World), (∀ j, rest[j]? = ops[k + j]?) → Rel E N τ h a w → wpOps P ops.toArray (fun ex a' w' => ∃ τ' h', Q ex τ' h' ∧ Rel E N τ' h' a' w') (List.range' k rest.length) a w

theorem AWw_of {P : Program} {E : Env} {N : Nat} {ops : List Oper} {Q : Exit → (Nat → AV) → List AObj → Prop} {rest : List Oper} {τ : Nat → AV} {h : List AObj} (hk : AWk P E N ops (Q .normal) rest τ h) : AWw P E N ops Q rest τ h :=
  fun k a w hj hr => AWk_sound rest k τ h a w hj hk hr

theorem AWw_pre {P : Program} {E : Env} {N : Nat} {ops : List Oper} {Q : Exit → (Nat → AV) → List AObj → Prop} {post : List Oper} : ∀ (pre : List Oper) (τ : Nat → AV) (h : List AObj),
    AWk P E N ops (fun τ h => AWw P E N ops Q post τ h) pre τ h → AWw P E N ops Q (pre ++ post) τ h
  | [], τ, h, hk => hk
  | o :: pre, τ, h, hk => by
    obtain ⟨R, hs, hnext⟩ := hk
    intro k a w hj hr
    have ho : ops.toArray[k]? = some o := by simpa using (hj 0).symm
    simp only [List.cons_append, List.length_cons, List.range'_succ]
    rw [wpOps_cons]
    exact step_sound ho hs hr fun v h' a' w' hR hrel =>
      AWw_pre pre _ _ (hnext v h' hR) (k + 1) a' w' (fun j => by have := hj (j + 1); simpa [Nat.add_assoc, Nat.add_comm 1 j] using this) hrel

theorem AW_regionAt {P : Program} {E : Env} {N : Nat} {id : Nat} {ops : List Oper} {Q : Exit → (Nat → AV) → List AObj → Prop} {τ : Nat → AV} {h : List AObj} (pre post : List Oper) (he : ops = pre ++ post)
    (hk : AWk P E N ops (fun τ h => AWw P E N ops Q post τ h) pre τ h) : AW P E N (.region id ops.toArray false) Q τ h := by
  intro a w hr
  refine wp_region ?_
  have := AWw_pre pre τ h hk 0 a w (fun j => by rw [← he]; simp) hr
  rw [← he] at this
  simpa [List.range_eq_range'] using this

set_option maxHeartbeats 1000000 in
/-- The append and the call. -/
theorem AWw_tempCall {P : Program} {T : Tr} (hT : TOk P T) {E : Env} {N : Nat} {ops : List Oper} {Q : Exit → (Nat → AV) → List AObj → Prop} {d1 d2 : Nat} {ty1 ty2 : TypeId} {pos1 pos2 : String} {after1 after2 : Array Edge} {rest : List Oper}
    {l : List (Nat × AV)} {h : List AObj} {t t2 sz by_ i : Nat} {s x f : Operand} {ats : Array TypeId} {g : FuncId} {es es2 : List (List Dat)} {r0 : AV}
    (ht : appT T t = some (sz, by_)) (ht2 : srcT T t2 = true) (hs : ev (look l) s = .sl sz es (.right i)) (hi : h[i]? = some (.right sz es.length)) (hx : asNew sz (ev (look l) x) = some es2) (hz : es2 ≠ [])
    (hb : (es.length + es2.length) * (by_ + 1) ≤ 140737488355328) (hd1 : Nat.blt d1 N = true) (hd2 : Nat.blt d2 N = true) (hf : f = .func g)
    (S : Spec P g [.d (.sl sz (es ++ es2))] [] (fun r h' => r = r0 ∧ h' = [])) (hr0 : ∀ G G' v, RepA G r0 v → RepA G' r0 v)
    (hk : AWw P E N ops Q rest (look ((d2, r0) :: (d1, .any) :: l)) h) :
    AWw P E N ops Q (⟨some d1, .call { callee := .builtin .append, args := #[s, x], argTypes := #[t, t2] }, ty1, pos1, after1, none⟩ :: ⟨some d2, .call { callee := .value f, args := #[.tmp d1], argTypes := ats }, ty2, pos2, after2, none⟩ :: rest) (look l) h := by
  subst hf
  intro k a w hj hr
  obtain ⟨r1, r2, G, hw, ht'⟩ := hr
  have hl1 : d1 < N := blt_lt hd1
  have hl2 : d2 < N := blt_lt hd2
  have ho1 := (hj 0).symm
  have ho2 := (hj 1).symm
  simp only [List.getElem?_cons_zero, List.getElem?_cons_succ, Nat.add_zero] at ho1 ho2
  simp only [List.length_cons, List.range'_succ]
  rw [wpOps_cons]
  unfold wpOp
  rw [show ops.toArray[k]? = _ from (by simpa using ho1)]
  simp only
  rw [if_pos (by rfl)]
  left
  obtain ⟨u, w1, m, hrun1, hw1, hm1, hm2, hD⟩ := tempAppend (o := ⟨some d1, .call { callee := .builtin .append, args := #[s, x], argTypes := #[t, t2] }, ty1, pos1, after1, none⟩) (ρ := ev (look l)) hT rfl ht ht2 hs hi hx hz hb G a.eval w hw (fun x _ => eval_rep (E.tab.mono hw.le.imm) ht' x)
  show Oper.upon P _ a _ _ ((execOp a.eval _).run P w)
  rw [hrun1, Oper.upon_value]
  have hrel1 : Rel E N (look ((d1, .any) :: l)) h (a.put (some d1) u) w1 := by
    refine ⟨by rw [put_size]; exact r1, by rw [put_defers]; exact r2, G, hw1, ?_⟩
    obtain ⟨tmps, ds⟩ := a
    exact rep_put (dst := some d1) r1 (fun d hd => by cases hd; exact hl1) ht' (.any u) ds
  obtain ⟨s1, s2, G', hw1', ht1⟩ := hrel1
  clear hw1'
  have ht1' : ∀ t, RepA G (look ((d1, .any) :: l) t) ((a.put (some d1) u).tmps.getD t undef) := by
    obtain ⟨tmps, ds⟩ := a
    exact rep_put (dst := some d1) r1 (fun d hd => by cases hd; exact hl1) ht' (.any u) ds
  have hval : (a.put (some d1) u).eval (.tmp d1) = u := by
    obtain ⟨tmps, ds⟩ := a
    have hlt : d1 < tmps.size := by have : tmps.size = N := r1; omega
    simp [Act.put, Act.eval, Array.getD_eq_getD_getElem?, hlt]
  generalize ha1 : a.put (some d1) u = a1 at s1 s2 ht1' hval
  rw [wpOps_cons]
  unfold wpOp
  rw [show ops.toArray[k + 1]? = _ from (by simpa using ho2)]
  simp only
  rw [if_pos (by rfl)]
  left
  obtain ⟨fn, k1, k2, k3⟩ := S.1
  have k2' : ¬ fn.name = "runtime.NumGoroutine" := by simpa using k2
  have k3' : ¬ fn.body = none := by intro hh; rw [hh] at k3; cases k3
  have hrun2 : (execOp a1.eval ⟨some d2, .call { callee := .value (.func g), args := #[.tmp d1], argTypes := ats }, ty2, pos2, after2, none⟩).run P w1 = .ok (.enter g #[u]) w1 := by
    unfold execOp
    have hfc : a1.eval (.func g) = .func (.func g) #[] #[] := rfl
    simp [resolve, hfc, Deferred.ofValue, invoke, callFunc, k1, k2', k3', hval]
  show Oper.upon P _ a1 _ _ ((execOp a1.eval _).run P w1)
  rw [hrun2, Oper.upon_enter]
  have htab : TabOk m := TabOk.mono (fun a v ha => hm1 a v (hw.le.imm a v ha)) E.tab
  have hcall := S.2 ⟨m, fun _ => none, fun _ _ => none, fun _ => none⟩ w1 #[u] rfl (fun j y v hy hv => by
    match j, hy, hv with
    | 0, hy, hv =>
      simp only [List.getElem?_cons_zero, Option.some.injEq] at hy
      simp at hv
      subst hy; subst hv
      exact .d hD
    | j + 1, hy, hv => simp at hy) htab
    ⟨.refl _, hm2, fun a v ha => .inl ha, fun b hb => rfl, Nat.le_refl _, rfl, rfl, rfl, fun b i hb => (by cases hb), fun i hi => ⟨rfl, fun n => rfl⟩, fun i o hi => (by simp at hi)⟩
  refine hcall.mono ?_
  rintro ex w2 ⟨v, r, h', G2, rfl, ⟨rfl, rfl⟩, -, -, -, hv, hw2⟩
  have hw3 : WRel E G h w2 := WRel_grow hw1 (fun b hb => hw2.keep b ⟨hb, rfl⟩) hw2.size hw2.os hw2.tape hw2.output
  refine hk (k + 2) _ w2 (fun j => by have := hj (j + 2); simpa [Nat.add_assoc, Nat.add_comm 2 j] using this) ?_
  refine ⟨by rw [put_size]; exact s1, by rw [put_defers]; exact s2, G, hw3, ?_⟩
  obtain ⟨tmps, ds⟩ := a1
  exact rep_put (dst := some d2) s1 (fun d hd => by cases hd; exact hl2) ht1' (hr0 _ _ _ hv) ds
end Tdoc
