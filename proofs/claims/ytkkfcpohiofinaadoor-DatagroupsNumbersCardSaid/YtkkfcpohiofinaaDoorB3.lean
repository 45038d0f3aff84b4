/- Bodies and calls. No program is named here. -/
import Derived.Test.YtkkfcpohiofinaaDoorB2
set_option linter.unusedSimpArgs false
set_option linter.unusedVariables false
namespace Tdoc
open Go

/-- Objects from k on are forgotten. -/
def cutG (k : Nat) (G : Gh) : Gh :=
  { G with loc := fun i => if i < k then G.loc i else none, rt := fun i n => if i < k then G.rt i n else none }

theorem cut_alike (k : Nat) (G : Gh) : Alike k (fun i => i) G (cutG k G) :=
  ⟨fun _ _ h => h, fun i b hi h => by show (if i < k then G.loc i else none) = some b; rw [if_pos hi]; exact h, fun i n x hi h => by show (if i < k then G.rt i n else none) = some x; rw [if_pos hi]; exact h⟩

theorem RepA.cut {k : Nat} {G : Gh} {x : AV} {v : Value} (h : RepA G x v) (hl : low k x = true) : RepA (cutG k G) x v := by
  have := h.alike (cut_alike k G) hl
  rwa [ren_id _ (fun _ => rfl)] at this

/-- Where the entry's objects are: none from k0 on. -/
def Env.below (E : Env) (k : Nat) : Prop := ∀ i, k ≤ i → E.G0.loc i = none ∧ ∀ n, E.G0.rt i n = none

theorem WRel.cut {E : Env} {G : Gh} {h h' : List AObj} {w : World} {k : Nat} (hw : WRel E G h w) (hk : E.below k) (hlen : h'.length = k) (hp : ∀ i, i < k → h'[i]? = h[i]?) (hl : lowH k h' = true) : WRel E (cutG k G) h' w := by
  refine ⟨⟨hw.le.imm, fun i b hb => ?_, fun i n x hx => ?_, hw.le.own⟩, hw.imm, hw.immNew, hw.keep, hw.size, hw.os, hw.tape, hw.output, hw.own, fun i hi => ?_, fun i ob hi => ?_⟩
  · show (if i < k then G.loc i else none) = some b
    by_cases hik : i < k
    · rw [if_pos hik]; exact hw.le.loc _ _ hb
    · rw [(hk i (by omega)).1] at hb; cases hb
  · show (if i < k then G.rt i n else none) = some x
    by_cases hik : i < k
    · rw [if_pos hik]; exact hw.le.rt _ _ _ hx
    · rw [(hk i (by omega)).2 n] at hx; cases hx
  · rw [hlen] at hi
    exact ⟨by show (if i < k then G.loc i else none) = none; rw [if_neg (by omega)], fun n => by show (if i < k then G.rt i n else none) = none; rw [if_neg (by omega)]⟩
  · have hik : i < k := by rw [← hlen]; exact (List.getElem?_eq_some_iff.1 hi).1
    have hlo := lowH_at hl hi
    rw [hp i hik] at hi
    have hob := hw.obj i ob hi
    cases ob with
    | dead => trivial
    | room => exact ⟨by show (if i < k then G.loc i else none) = none; rw [if_pos hik]; exact hob.1, fun n => by show (if i < k then G.rt i n else none) = none; rw [if_pos hik]; exact hob.2 n⟩
    | row cells =>
      obtain ⟨b, h1, h2, h3, h4⟩ := hob
      refine ⟨b, (cut_alike k G).loc i b hik h1, h2, fun j c hj => ?_, h4.1, fun n => by show (if i < k then G.rt i n else none) = none; rw [if_pos hik]; exact h4.2 n⟩
      obtain ⟨v, q1, q2, q3, q4⟩ := h3 j c hj
      exact ⟨v, q1, q2, q3.cut (lowL_at hlo hj), q4⟩
    | buf sz n cells =>
      obtain ⟨a, cap, h1, h2, h3⟩ := hob
      exact ⟨a, cap, (cut_alike k G).rt i n _ hik h1, fun n' hn => by show (if i < k then G.rt i n' else none) = none; rw [if_pos hik]; exact h2 n' hn,
        h3.trans rfl (fun b hb => ⟨hb, rfl, fun x _ hn => hn⟩) (fun j c hj => ⟨c, hj, fun v hv => hv.cut (lowL_at hlo hj)⟩)⟩
    | right sz n =>
      obtain ⟨a, cap, h1, h2, h3, h4⟩ := hob
      exact ⟨a, cap, (cut_alike k G).rt i n _ hik h1, h2, fun n' hn => by show (if i < k then G.rt i n' else none) = none; rw [if_pos hik]; exact h3 n' hn, h4⟩

/-- What is told at the end of a body. -/
def retP (T : Tr) (rs : List ResultVar) (k : Nat) (Q : AV → List AObj → Prop) : Exit → (Nat → AV) → List AObj → Prop
  | .normal, τ, h => ∃ v r h', resA T τ h rs = some v ∧ (∀ G x, RepA G v x → RepA G r x) ∧ h' = h.take k ∧ h'.length = k ∧ low k r = true ∧ lowH k h' = true ∧ Q r h'
  | .ret, τ, h => ∃ v r h', resA T τ h rs = some v ∧ (∀ G x, RepA G v x → RepA G r x) ∧ h' = h.take k ∧ h'.length = k ∧ low k r = true ∧ lowH k h' = true ∧ Q r h'
  | _, _, _ => False

theorem Spec_of_body {P : Program} {T : Tr} (hT : TOk P T) {f : FuncId} {fn : Func} {c : Code} {rs : List ResultVar} {args : List AV} {h : List AObj} {Q : AV → List AObj → Prop} (hf : P.funcs[f]? = some fn) (hb : fn.body = some c)
    (hname : (fn.name == "runtime.NumGoroutine") = false) (hrs : fn.results = rs.toArray) (hn : Nat.ble args.length fn.ntmps = true)
    (H : ∀ E : Env, E.below h.length → AW P E fn.ntmps c (retP T rs h.length Q) (look (pars args 0)) h) : Spec P f args h Q := by
  refine ⟨⟨fn, hf, hname, by rw [hb]; rfl⟩, fun G w vals hvs hargs htab hw => ?_⟩
  have hbel : (⟨w, G, htab⟩ : Env).below h.length := fun i hi => hw.fresh i hi
  have hle := Nat.le_of_ble_eq_true hn
  refine calls_of_wp hf hb (wp_mono (H ⟨w, G, htab⟩ hbel _ w ⟨by simp; omega, rfl, G, hw, fun t => ?_⟩) ?_)
  · rw [look_pars]
    by_cases ht : 0 ≤ t ∧ t < 0 + args.length
    · rw [if_pos ht]
      have ht2 : t < args.length := by omega
      have h1 : args[t]? = some args[t] := by simp [ht2]
      have h2 : vals[t]? = some vals[t] := by simp [hvs, ht2]
      have := hargs t _ _ h1 h2
      simp only [Nat.sub_zero, h1, Option.getD_some]
      have hget : (vals ++ Array.replicate (fn.ntmps - vals.size) undef).getD t undef = vals[t] := by
        rw [Array.getD_eq_getD_getElem?, Array.getElem?_append_left (by omega), h2]; rfl
      rw [hget]; exact this
    · rw [if_neg ht]; exact .any _
  · rintro e a' w' ⟨τ', h', hq, hr⟩
    have fin : (∃ v r h'', resA T τ' h' rs = some v ∧ (∀ G x, RepA G v x → RepA G r x) ∧ h'' = h'.take h.length ∧ h''.length = h.length ∧ low h.length r = true ∧ lowH h.length h'' = true ∧ Q r h'') →
        a'.defers = [] ∧ ∃ v, (results fn a'.tmps).run P w' = .ok v w' ∧ ∃ v_1 r h' G', Ending.returned v = .returned v_1 ∧ Q r h' ∧ h'.length = h.length ∧ low h.length r = true ∧ lowH h.length h' = true ∧ RepA G' r v_1 ∧ WRel ⟨w, G, htab⟩ G' h' w' := by
      rintro ⟨v, r, h'', q1, q2, q3, q4, q5, q6, q7⟩
      obtain ⟨r1, r2, G', hw', ht⟩ := hr
      obtain ⟨u, hu, hru⟩ := resA_run hT hw' ht hrs q1
      refine ⟨r2, u, hu, u, r, h'', cutG h.length G', rfl, q7, q4, q5, q6, (q2 _ _ hru).cut q5, hw'.cut hbel q4 (fun i hi => ?_) q6⟩
      rw [q3, List.getElem?_take, if_pos hi]
    cases e with
    | normal => exact fin hq
    | ret => exact fin hq
    | exit id => exact hq.elim
    | goto l => exact hq.elim
    | panic ch => exact hq.elim
    | outgrown => exact hq.elim

/-! ### calls -/

/-- The objects that are handed to a callee, in its own numbering. -/
def fsf (fs : List Nat) (i : Nat) : Nat := fs.getD i 0

def idx (fs : List Nat) (j : Nat) : Option Nat := fs.idxOf? j

def calleeG (fs : List Nat) (G : Gh) : Gh where
  imm := G.imm
  loc := fun i => if i < fs.length then G.loc (fsf fs i) else none
  rt := fun i n => if i < fs.length then G.rt (fsf fs i) n else none
  own := fun b => match G.own b with
    | some j => fs.idxOf? j
    | none => none

def callerG (fs : List Nat) (G Gc : Gh) : Gh where
  imm := Gc.imm
  loc := fun j => match fs.idxOf? j with
    | some i => Gc.loc i
    | none => G.loc j
  rt := fun j n => match fs.idxOf? j with
    | some i => Gc.rt i n
    | none => G.rt j n
  own := fun b => match Gc.own b with
    | some i => if i < fs.length then some (fsf fs i) else G.own b
    | none => G.own b

theorem idxOf_at : ∀ {fs : List Nat} {i : Nat}, fs.Nodup → i < fs.length → fs.idxOf? (fsf fs i) = some i
  | [], i, _, h => by simp at h
  | a :: fs, 0, _, _ => by simp [fsf, List.idxOf?_cons]
  | a :: fs, i + 1, hn, h => by
    simp only [List.nodup_cons] at hn
    simp only [List.length_cons] at h
    have hi : i < fs.length := by omega
    have hne : a ≠ fsf fs i := fun hh => hn.1 (by rw [hh]; unfold fsf; rw [List.getD_eq_getElem?_getD, List.getElem?_eq_getElem hi]; exact List.getElem_mem hi)
    have ih := idxOf_at hn.2 hi
    have : fsf (a :: fs) (i + 1) = fsf fs i := rfl
    rw [this, List.idxOf?_cons]
    simp [hne, ih]

theorem idxOf_some : ∀ {fs : List Nat} {j i : Nat}, fs.idxOf? j = some i → i < fs.length ∧ fsf fs i = j
  | [], j, i, h => by simp at h
  | a :: fs, j, i, h => by
    rw [List.idxOf?_cons] at h
    split at h
    · rename_i hh
      cases h
      simp at hh
      exact ⟨by simp, by simp [fsf, hh]⟩
    · rw [Option.map_eq_some_iff] at h
      obtain ⟨k, hk, rfl⟩ := h
      obtain ⟨h1, h2⟩ := idxOf_some hk
      exact ⟨by simp; omega, by simpa [fsf] using h2⟩

theorem idxOf_none_set {fs : List Nat} {j i : Nat} (h : fs.idxOf? j = none) (hi : i < fs.length) : fsf fs i ≠ j := by
  intro hh
  subst hh
  rw [List.idxOf?_eq_none_iff] at h
  refine h ?_
  unfold fsf
  rw [List.getD_eq_getElem?_getD, List.getElem?_eq_getElem hi]; exact List.getElem_mem hi

theorem updH_at : ∀ (fs : List Nat) (os h : List AObj) (i : Nat) (o : AObj), fs.Nodup → os[i]? = some o → i < fs.length → fsf fs i < h.length → (updH h fs os)[fsf fs i]? = some o
  | [], os, h, i, o, _, _, hi, _ => by simp at hi
  | a :: fs, [], h, i, o, _, ho, _, _ => by simp at ho
  | a :: fs, x :: os, h, 0, o, hn, ho, _, hl => by
    simp at ho; subst ho
    simp only [List.nodup_cons] at hn
    have : fsf (a :: fs) 0 = a := rfl
    rw [this] at hl ⊢
    rw [updH, updH_other fs os _ a hn.1]
    simp [hl]
  | a :: fs, x :: os, h, i + 1, o, hn, ho, hi, hl => by
    simp only [List.nodup_cons] at hn
    have : fsf (a :: fs) (i + 1) = fsf fs i := rfl
    rw [this] at hl ⊢
    rw [updH]
    exact updH_at fs os _ i o hn.2 (by simpa using ho) (by simpa using hi) (by simpa using hl)

theorem fsf_mem {fs : List Nat} {i : Nat} (h : i < fs.length) : fsf fs i ∈ fs := by
  unfold fsf; rw [List.getD_eq_getElem?_getD, List.getElem?_eq_getElem h]; exact List.getElem_mem h

/-- THE CALL. 'hc': the callee's objects in its own numbering; 'fs': where they lie with the caller. -/
theorem call_frame {P : Program} {f : FuncId} {args hargs : List AV} {hc H : List AObj} {Q : AV → List AObj → Prop} (S : Spec P f args hc Q) {fs : List Nat} (hnd : fs.Nodup) (hlen : fs.length = hc.length)
    (hobj : ∀ i, i < fs.length → H[fsf fs i]? = (hc[i]?).map (renO (fsf fs))) (hlow : lowH fs.length hc = true) (hargs' : hargs = renL (fsf fs) args) (hla : lowL fs.length args = true)
    {E : Env} {G : Gh} {w : World} (hw : WRel E G H w) {vals : Array Value} (hvs : vals.size = hargs.length) (hr : ∀ (j : Nat) (x : AV) (v : Value), hargs[j]? = some x → vals[j]? = some v → RepA G x v) :
    Calls P f vals w (fun e w' => ∃ v r h' G', e = .returned v ∧ Q r h' ∧ h'.length = hc.length ∧ G.le G' ∧ RepA G' (ren (fsf fs) r) v ∧ WRel E G' (updH H fs (h'.map (renO (fsf fs)))) w') := by
  let Gc := calleeG fs G
  have hin : ∀ i, i < fs.length → fsf fs i < H.length := fun i hi => by
    have := hobj i hi
    have h2 : hc[i]? = some hc[i] := by simp [← hlen, hi]
    rw [h2] at this
    exact (List.getElem?_eq_some_iff.1 this).1
  have hback : Back fs.length (fsf fs) Gc G := ⟨fun _ _ h => h, fun i b hi h => by show (if i < fs.length then G.loc (fsf fs i) else none) = some b; rw [if_pos hi]; exact h,
    fun i n x hi h => by show (if i < fs.length then G.rt (fsf fs i) n else none) = some x; rw [if_pos hi]; exact h⟩
  have hown : ∀ b i, Gc.own b = some i → G.own b = some (fsf fs i) ∧ i < fs.length := by
    intro b i hb
    have hb' : (match G.own b with | some j => fs.idxOf? j | none => none) = some i := hb
    split at hb'
    · rename_i j hj
      obtain ⟨h1, h2⟩ := idxOf_some hb'
      exact ⟨by rw [hj, h2], h1⟩
    · cases hb'
  have hown2 : ∀ b i, i < fs.length → G.own b = some (fsf fs i) → Gc.own b = some i := by
    intro b i hi hb
    show (match G.own b with | some j => fs.idxOf? j | none => none) = some i
    rw [hb]; exact idxOf_at hnd hi
  have htabc : TabOk Gc.imm := E.tab.mono hw.le.imm
  have hwc : WRel ⟨w, Gc, htabc⟩ Gc hc w := by
    refine ⟨.refl _, hw.imm, fun a v h => .inl h, fun _ _ => rfl, Nat.le_refl _, rfl, rfl, rfl, fun b i hb => ?_, fun i hi => ?_, fun i ob hi => ?_⟩
    · obtain ⟨h1, h2⟩ := hown b i hb
      exact ⟨(hw.own b _ h1).1, fun hk => by have hk2 : Gc.own b = none := hk.2; rw [hb] at hk2; cases hk2⟩
    · exact ⟨by show (if i < fs.length then _ else none) = none; rw [if_neg (by omega)], fun n => by show (if i < fs.length then _ else none) = none; rw [if_neg (by omega)]⟩
    · have hil : i < fs.length := by rw [hlen]; exact (List.getElem?_eq_some_iff.1 hi).1
      have hH := hobj i hil
      rw [hi] at hH
      simp only [Option.map_some] at hH
      have hlo := lowH_at hlow hi
      have hob := hw.obj _ _ hH
      cases ob with
      | dead => trivial
      | room => exact ⟨by show (if i < fs.length then G.loc (fsf fs i) else none) = none; rw [if_pos hil]; exact hob.1, fun n => by show (if i < fs.length then G.rt (fsf fs i) n else none) = none; rw [if_pos hil]; exact hob.2 n⟩
      | row cells =>
        obtain ⟨b, h1, h2, h3, h4⟩ := hob
        refine ⟨b, hback.loc i b hil h1, hown2 b i hil h2, fun j c hj => ?_, h4.1, fun n => by show (if i < fs.length then G.rt (fsf fs i) n else none) = none; rw [if_pos hil]; exact h4.2 n⟩
        obtain ⟨v, q1, q2, q3, q4⟩ := h3 j (ren (fsf fs) c) (by rw [renL_at, hj]; rfl)
        exact ⟨v, q1, q2, q3.back hback c rfl (lowL_at hlo hj), q4⟩
      | buf sz n cells =>
        obtain ⟨a, cap, h1, h2, h3⟩ := hob
        refine ⟨a, cap, hback.rt i n _ hil h1, fun n' hn => by show (if i < fs.length then G.rt (fsf fs i) n' else none) = none; rw [if_pos hil]; exact h2 n' hn,
          h3.trans (by rw [renL_length]) (fun b hb => ⟨hown2 _ i hil hb, rfl, fun x _ hn => hn⟩) (fun j c hj => ⟨ren (fsf fs) c, by rw [renL_at, hj]; rfl, fun v hv => hv.back hback c rfl (lowL_at hlo hj)⟩)⟩
      | right sz n =>
        obtain ⟨a, cap, h1, h2, h3, h4⟩ := hob
        refine ⟨a, cap, hback.rt i n _ hil h1, h2, fun n' hn => ?_, fun hlt => ?_⟩
        · show (if i < fs.length then G.rt (fsf fs i) n' else none) = none
          rw [if_pos hil]; exact h3 n' hn
        · obtain ⟨p, p1, p2, p3, p4⟩ := h4 hlt
          exact ⟨p, p1, p2, hown2 _ i hil p3, p4⟩
  subst hargs'
  have hcall := S.2 Gc w vals (by rw [hvs, renL_length]) (fun j x v hx hv => (hr j (ren (fsf fs) x) v (by rw [renL_at, hx]; rfl) hv).back hback x rfl (lowL_at hla hx)) htabc hwc
  refine hcall.mono ?_
  rintro e w' ⟨v, r, h', Gc', rfl, hQ, hl', hlr, hlh, hrv, hw'⟩
  -- blocks that the callee must keep
  have hKc : ∀ b, b < w.heap.size → Gc.own b = none → (⟨w, Gc, htabc⟩ : Env).K b := fun b h1 h2 => ⟨h1, h2⟩
  have hEK : ∀ b, ¬ (⟨w, Gc, htabc⟩ : Env).K b → ¬ E.K b := by
    intro b hnk hk
    have hb : b < w.heap.size := Nat.lt_of_lt_of_le hk.1 hw.size
    cases ho : Gc.own b with
    | none => exact hnk (hKc b hb ho)
    | some i => exact (hw.own b _ (hown b i ho).1).2 hk
  have hEKc : ∀ b, E.K b → (⟨w, Gc, htabc⟩ : Env).K b := fun b hk => Classical.byContradiction fun hn => hEK b hn hk
  let G' := callerG fs G Gc'
  have hal : Alike fs.length (fsf fs) Gc' G' := ⟨fun _ _ h => h, fun i b hi h => by
      show (match fs.idxOf? (fsf fs i) with | some i => Gc'.loc i | none => G.loc _) = some b
      rw [idxOf_at hnd hi]; exact h, fun i n x hi h => by
      show (match fs.idxOf? (fsf fs i) with | some i => Gc'.rt i n | none => G.rt _ n) = some x
      rw [idxOf_at hnd hi]; exact h⟩
  have hle : G.le G' := by
    refine ⟨fun a v h => hw'.le.imm a v h, fun j b hb => ?_, fun j n x hx => ?_, fun b j hb => ?_⟩
    · show (match fs.idxOf? j with | some i => Gc'.loc i | none => G.loc j) = some b
      split
      · rename_i i hi
        obtain ⟨h1, h2⟩ := idxOf_some hi
        subst h2
        exact hw'.le.loc i b (hback.loc i b h1 hb)
      · exact hb
    · show (match fs.idxOf? j with | some i => Gc'.rt i n | none => G.rt j n) = some x
      split
      · rename_i i hi
        obtain ⟨h1, h2⟩ := idxOf_some hi
        subst h2
        exact hw'.le.rt i n x (hback.rt i n x h1 hx)
      · exact hx
    · show (match Gc'.own b with | some i => if i < fs.length then some (fsf fs i) else G.own b | none => G.own b) = some j
      have hbs := (hw.own b j hb).1
      cases hix : fs.idxOf? j with
      | some i =>
        obtain ⟨h1, h2⟩ := idxOf_some hix
        subst h2
        have := hw'.le.own b i (hown2 b i h1 hb)
        rw [this]; simp [h1]
      | none =>
        have hgn : Gc.own b = none := by
          show (match G.own b with | some j => fs.idxOf? j | none => none) = none
          rw [hb]; exact hix
        have : Gc'.own b = none := by
          cases ho : Gc'.own b with
          | none => rfl
          | some i => exact absurd (hKc b hbs hgn) (hw'.own b i ho).2
        rw [this]; exact hb
  have hlen' : (h'.map (renO (fsf fs))).length = fs.length := by simp [hl', hlen]
  refine ⟨v, r, h', G', rfl, hQ, hl', hle, hrv.alike hal (by rw [hlen]; exact hlr), ?_⟩
  refine ⟨hw.le.trans hle, hw'.imm, fun a v ha => ?_, fun b hb => ?_, Nat.le_trans hw.size hw'.size, hw'.os.trans hw.os, hw'.tape.trans hw.tape, hw'.output.trans hw.output, fun b j hb => ?_, fun j hj => ?_, fun j ob hj => ?_⟩
  · rcases hw'.immNew a v ha with h1 | h1
    · exact hw.immNew a v h1
    · exact .inr (hEK _ h1)
  · exact (hw'.keep b (hEKc b hb)).trans (hw.keep b hb)
  · have hb' : (match Gc'.own b with | some i => if i < fs.length then some (fsf fs i) else G.own b | none => G.own b) = some j := hb
    have old : G.own b = some j → b < w'.heap.size ∧ ¬ E.K b := fun h => by
      have := hw.own b j h; exact ⟨Nat.lt_of_lt_of_le this.1 hw'.size, this.2⟩
    split at hb'
    · rename_i i hi
      split at hb'
      · have := hw'.own b i hi
        exact ⟨this.1, hEK b this.2⟩
      · exact old hb'
    · exact old hb'
  · rw [updH_length] at hj
    have hf := hw.fresh j hj
    have hno : fs.idxOf? j = none := by
      cases hix : fs.idxOf? j with
      | none => rfl
      | some i => obtain ⟨h1, h2⟩ := idxOf_some hix; have := hin i h1; omega
    refine ⟨?_, fun n => ?_⟩
    · show (match fs.idxOf? j with | some i => Gc'.loc i | none => G.loc j) = none
      rw [hno]; exact hf.1
    · show (match fs.idxOf? j with | some i => Gc'.rt i n | none => G.rt j n) = none
      rw [hno]; exact hf.2 n
  · cases hix : fs.idxOf? j with
    | some i =>
      obtain ⟨h1, h2⟩ := idxOf_some hix
      subst h2
      obtain ⟨o', ho'⟩ : ∃ o', h'[i]? = some o' := ⟨h'[i]'(by omega), by simp [show i < h'.length by omega]⟩
      rw [updH_at fs _ H i (renO (fsf fs) o') hnd (by simp [ho']) h1 (hin i h1)] at hj
      cases hj
      have hob := hw'.obj i o' ho'
      have hlo := lowH_at hlh ho'
      have hown' : ∀ b, Gc'.own b = some i → G'.own b = some (fsf fs i) := fun b hb => by
        show (match Gc'.own b with | some i => if i < fs.length then some (fsf fs i) else G.own b | none => G.own b) = _
        rw [hb]; simp [h1]
      cases o' with
      | dead => trivial
      | room =>
        refine ⟨?_, fun n => ?_⟩
        · show (match fs.idxOf? (fsf fs i) with | some i => Gc'.loc i | none => G.loc _) = none
          rw [idxOf_at hnd h1]; exact hob.1
        · show (match fs.idxOf? (fsf fs i) with | some i => Gc'.rt i n | none => G.rt _ n) = none
          rw [idxOf_at hnd h1]; exact hob.2 n
      | row cells =>
        obtain ⟨b, q1, q2, q3, q4⟩ := hob
        refine ⟨b, hal.loc i b h1 q1, hown' b q2, fun k c hk => ?_, q4.1, fun n => by show (match fs.idxOf? (fsf fs i) with | some i => Gc'.rt i n | none => G.rt _ n) = none; rw [idxOf_at hnd h1]; exact q4.2 n⟩
        rw [renL_at, Option.map_eq_some_iff] at hk
        obtain ⟨c', hc', rfl⟩ := hk
        obtain ⟨u, u1, u2, u3, u4⟩ := q3 k c' hc'
        exact ⟨u, u1, u2, u3.alike hal (by rw [hlen]; exact lowL_at hlo hc'), u4⟩
      | buf sz n cells =>
        obtain ⟨a, cap, q1, q2, q3⟩ := hob
        refine ⟨a, cap, hal.rt i n _ h1 q1, fun n' hn => by show (match fs.idxOf? (fsf fs i) with | some i => Gc'.rt i n' | none => G.rt _ n') = none; rw [idxOf_at hnd h1]; exact q2 n' hn,
          q3.trans (by rw [renL_length]) (fun b hb => ⟨hown' _ hb, rfl, fun x _ hn => hn⟩) (fun j c hj => ?_)⟩
        rw [renL_at, Option.map_eq_some_iff] at hj
        obtain ⟨c', hc', rfl⟩ := hj
        exact ⟨c', hc', fun v hv => hv.alike hal (by rw [hlen]; exact lowL_at hlo hc')⟩
      | right sz n =>
        obtain ⟨a, cap, q1, q2, q3, q4⟩ := hob
        refine ⟨a, cap, hal.rt i n _ h1 q1, q2, fun n' hn => ?_, fun hlt => ?_⟩
        · show (match fs.idxOf? (fsf fs i) with | some i => Gc'.rt i n' | none => G.rt _ n') = none
          rw [idxOf_at hnd h1]; exact q3 n' hn
        · obtain ⟨p, p1, p2, p3, p4⟩ := q4 hlt
          exact ⟨p, p1, p2, hown' _ p3, p4⟩
    | none =>
      have hnm : j ∉ fs := by rw [List.idxOf?_eq_none_iff] at hix; exact hix
      rw [updH_other fs _ H j hnm] at hj
      refine (hw.obj j ob hj).keep hle (fun b hb => ?_) (fun n hn => ?_) (fun hn => by show (match fs.idxOf? j with | some i => Gc'.loc i | none => G.loc j) = none; rw [hix]; exact hn)
      · have hbs := (hw.own b j hb).1
        have hgn : Gc.own b = none := by
          show (match G.own b with | some j => fs.idxOf? j | none => none) = none
          rw [hb]; exact hix
        have hk := hKc b hbs hgn
        refine ⟨hw'.keep b hk, fun a ha => ?_⟩
        cases hga : Gc'.imm a with
        | none =>
          show Gc'.imm a = G.imm a
          rw [hga]
          cases hg : G.imm a with
          | none => rfl
          | some v => have := hw'.le.imm a v hg; rw [hga] at this; cases this
        | some v =>
          show Gc'.imm a = G.imm a
          rcases hw'.immNew a v hga with h1 | h1
          · rw [hga]; exact h1.symm
          · exact absurd (ha ▸ hk) h1
      · show (match fs.idxOf? j with | some i => Gc'.rt i n | none => G.rt j n) = none
        rw [hix]; exact hn
end Tdoc
