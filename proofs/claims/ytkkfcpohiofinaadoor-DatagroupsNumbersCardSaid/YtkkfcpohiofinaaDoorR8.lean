/- Bytes of a constant text: a slice that is built and then turned into its own type. No program is named here. -/
import Derived.Test.YtkkfcpohiofinaaDoorR7
import Derived.Lib.SlBytesConst
set_option linter.unusedSimpArgs false
set_option linter.unusedVariables false
namespace Tdoc
open Go

/-- A block's mark behind its end changes nothing that is told. -/
theorem WRel_marked {E : Env} {G : Gh} {h : List AObj} {w : World} {C : Array Value} {el : TypeId} {f : Nat × Nat} (hE : E.w0.heap.size ≤ w.heap.size) (hown : G.own w.heap.size = none) (hw : WRel E G h (w.alloc (.cells C el))) : WRel E G h (w.alloc (.cells C el f)) := by
  have hne : ∀ b, b ≠ w.heap.size → (w.alloc (.cells C el f)).heap[b]? = (w.alloc (.cells C el)).heap[b]? := fun b hb => by
    show (w.heap.push _)[b]? = (w.heap.push _)[b]?
    rw [Array.getElem?_push, Array.getElem?_push, if_neg hb, if_neg hb]
  have hcell : ∀ a, (w.alloc (.cells C el f)).cell? a = (w.alloc (.cells C el)).cell? a := fun a => by
    by_cases hb : a.block = w.heap.size
    · have h1 : (w.alloc (.cells C el f)).heap[a.block]? = some (.cells C el f) := by rw [hb]; exact Array.getElem?_push_size
      have h2 : (w.alloc (.cells C el)).heap[a.block]? = some (.cells C el) := by rw [hb]; exact Array.getElem?_push_size
      simp only [World.cell?, h1, h2]
    · exact World.cell?_of_block (hne _ hb)
  have hsz : (w.alloc (.cells C el f)).heap.size = (w.alloc (.cells C el)).heap.size := by show (w.heap.push _).size = (w.heap.push _).size; simp
  refine ⟨hw.le, fun a v ha => by rw [hcell]; exact hw.imm a v ha, hw.immNew, fun b hk => ?_, by rw [hsz]; exact hw.size, hw.os, hw.tape, hw.output, fun b i hb => by rw [hsz]; exact hw.own b i hb, hw.fresh, fun i o hi => ?_⟩
  · rw [hne b (by have := hk.1; omega)]; exact hw.keep b hk
  · exact (hw.obj i o hi).keep (.refl G) (fun b hb' => ⟨hne b (fun hh => by rw [hh, hown] at hb'; cases hb'), fun a _ => rfl⟩) (fun n hn => hn) (fun hn => hn)

set_option maxHeartbeats 1000000 in
/-- The built row and its conversion. -/
theorem AWw_constBytes {P : Program} {T : Tr} (hT : TOk P T) {E : Env} {N : Nat} {ops : List Oper} {Q : Exit → (Nat → AV) → List AObj → Prop} {d1 d2 : Nat} {ty1 ty2 : TypeId} {pos1 pos2 : String} {after1 after2 : Array Edge} {rest : List Oper}
    {l : List (Nat × AV)} {h : List AObj} {t len sz : Nat} {parts : Array (Nat × Operand)} {es : List (List Dat)} {tok : Tok}
    (hb : isByteSlice T t = true) (hv : buildSlA T t len (parts.toList.map fun x => (x.1, ev (look l) x.2)) = some (.sl sz es tok)) (hd1 : Nat.blt d1 N = true) (hd2 : Nat.blt d2 N = true)
    (hk : AWw P E N ops Q rest (look ((d2, .d (.sl sz es)) :: (d1, .any) :: l)) h) :
    AWw P E N ops Q (⟨some d1, .buildSlice t len parts, ty1, pos1, after1, none⟩ :: ⟨some d2, .convert t t (.tmp d1), ty2, pos2, after2, none⟩ :: rest) (look l) h := by
  intro k a w hj hr
  obtain ⟨r1, r2, G, hw, ht'⟩ := hr
  have hl1 : d1 < N := blt_lt hd1
  have hl2 : d2 < N := blt_lt hd2
  have ho1 := (hj 0).symm
  have ho2 := (hj 1).symm
  simp only [List.getElem?_cons_zero, List.getElem?_cons_succ, Nat.add_zero] at ho1 ho2
  simp only [List.length_cons, List.range'_succ]
  rw [wpOps_cons]
  unfold wpOp
  rw [show ops.toArray[k]? = _ from (by simpa using ho1)]
  simp only
  rw [if_pos (by rfl)]
  left
  obtain ⟨el, C, G1, hel, hown, hrun1, hle1, hw1, hu⟩ := buildSl_run (o := ⟨some d1, .buildSlice t len parts, ty1, pos1, after1, none⟩) (ρ := ev (look l)) hT rfl hv G a.eval w hw (fun x _ => eval_rep (E.tab.mono hw.le.imm) ht' x)
  obtain ⟨el', hel1, hel2⟩ := isByteSlice_ok hT hb
  rw [hel] at hel1
  cases hel1
  show Oper.upon P _ a _ _ ((execOp a.eval _).run P w)
  rw [hrun1, Oper.upon_value]
  have ht1 : ∀ t, RepA G1 (look ((d1, .any) :: l) t) ((a.put (some d1) (.slice (some ⟨w.heap.size, 0, none⟩) len len)).tmps.getD t undef) := by
    obtain ⟨tmps, ds⟩ := a
    exact rep_put (dst := some d1) r1 (fun d hd => by cases hd; exact hl1) (fun t => (ht' t).mono hle1) (.any _) ds
  have hval : (a.put (some d1) (.slice (some ⟨w.heap.size, 0, none⟩) len len)).eval (.tmp d1) = .slice (some ⟨w.heap.size, 0, none⟩) len len := by
    obtain ⟨tmps, ds⟩ := a
    have hlt : d1 < tmps.size := by have : tmps.size = N := r1; omega
    simp [Act.put, Act.eval, Array.getD_eq_getD_getElem?, hlt]
  have s1 : (a.put (some d1) (.slice (some ⟨w.heap.size, 0, none⟩) len len)).tmps.size = N := by rw [put_size]; exact r1
  have s2 : (a.put (some d1) (.slice (some ⟨w.heap.size, 0, none⟩) len len)).defers = [] := by rw [put_defers]; exact r2
  generalize a.put (some d1) (.slice (some ⟨w.heap.size, 0, none⟩) len len) = a1 at ht1 hval s1 s2
  rw [wpOps_cons]
  unfold wpOp
  rw [show ops.toArray[k + 1]? = _ from (by simpa using ho2)]
  simp only
  rw [if_pos (by rfl)]
  left
  have hrun2 : (execOp a1.eval ⟨some d2, .convert t t (.tmp d1), ty2, pos2, after2, none⟩).run P (w.alloc (.cells C el)) = .ok (.value (.slice (some ⟨w.heap.size, 0, none⟩) len len)) (w.alloc (.cells C el (C.size, C.size + 1))) := by
    have := Go.Lib.run_convert_bytes_const (P := P) w t el C len len hel hel2
    unfold execOp
    simp [hval, this]
  show Oper.upon P _ a1 _ _ ((execOp a1.eval _).run P (w.alloc (.cells C el)))
  rw [hrun2, Oper.upon_value]
  have hfree : G1.own w.heap.size = none := by
    rw [hown]
    cases ho : G.own w.heap.size with
    | none => rfl
    | some j => have := (hw.own _ _ ho).1; omega
  have hw2 := WRel_marked (f := (C.size, C.size + 1)) hw.size hfree hw1
  have hu2 : RepA G1 (.d (.sl sz es)) (.slice (some ⟨w.heap.size, 0, none⟩) len len) := by cases hu with | sl r _ => exact .d r
  refine hk (k + 2) _ _ (fun j => by have := hj (j + 2); simpa [Nat.add_assoc, Nat.add_comm 2 j] using this) ?_
  refine ⟨by rw [put_size]; exact s1, by rw [put_defers]; exact s2, G1, hw2, ?_⟩
  obtain ⟨tmps, ds⟩ := a1
  exact rep_put (dst := some d2) s1 (fun d hd => by cases hd; exact hl2) ht1 hu2 ds

theorem AWw_one {P : Program} {E : Env} {N : Nat} {ops : List Oper} {Q : Exit → (Nat → AV) → List AObj → Prop} {o : Oper} {rest : List Oper} {τ : Nat → AV} {h : List AObj}
    (hk : AWk P E N ops (fun τ h => AWw P E N ops Q rest τ h) [o] τ h) : AWw P E N ops Q (o :: rest) τ h := AWw_pre [o] τ h hk
end Tdoc
