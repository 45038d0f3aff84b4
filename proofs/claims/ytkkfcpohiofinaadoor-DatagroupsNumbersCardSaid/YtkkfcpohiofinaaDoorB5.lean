/- Small plain lemmas. No program is named here. -/
import Derived.Test.YtkkfcpohiofinaaDoorB4
set_option linter.unusedSimpArgs false
set_option linter.unusedVariables false
namespace Tdoc
open Go

theorem wrap_id {n : Int} (h : -9223372036854775808 ≤ n ∧ n ≤ 9223372036854775807) : IntKind.i64.wrap n = n := by
  simp [IntKind.wrap, IntKind.signed, IntKind.bits]; omega

theorem strAt_get {s : List UInt8} {i : Nat} (h : i < s.length) : strAt s (i : Int) = (s[i].toNat : Int) := by simp [strAt, h]

theorem beq_byte {c d : UInt8} {k : Int} (hd : (d.toNat : Int) = k) (h : ((c.toNat : Int) == k) = true) : c = d := by
  rw [beq_iff_eq, ← hd] at h; exact UInt8.toNat_inj.1 (Int.ofNat_inj.1 h)

theorem byte_eq {c d : UInt8} : ((c.toNat : Int) = (d.toNat : Int)) ↔ c = d := by
  rw [Int.ofNat_inj]; exact UInt8.toNat_inj

/-- A body that neither has results to truncate: the end of a function whose results are ready. -/
theorem ret_exact {T : Tr} {rs : List ResultVar} {k : Nat} {Q : AV → List AObj → Prop} {τ : Nat → AV} {h h' : List AObj} {v r : AV} (h1 : resA T τ h rs = some v) (h2 : AV.le v r) (h3 : h' = h.take k) (h4 : h'.length = k) (h5 : low k r = true) (h6 : lowH k h' = true) (h7 : Q r h') :
    retP T rs k Q .ret τ h := ⟨v, r, h', h1, h2, h3, h4, h5, h6, h7⟩

theorem ret_exactN {T : Tr} {rs : List ResultVar} {k : Nat} {Q : AV → List AObj → Prop} {τ : Nat → AV} {h h' : List AObj} {v r : AV} (h1 : resA T τ h rs = some v) (h2 : AV.le v r) (h3 : h' = h.take k) (h4 : h'.length = k) (h5 : low k r = true) (h6 : lowH k h' = true) (h7 : Q r h') :
    retP T rs k Q .normal τ h := ⟨v, r, h', h1, h2, h3, h4, h5, h6, h7⟩

/-- A slot's list, told anew with equal values. -/
theorem look_eq_cons {t : Nat} {v : AV} {l : List (Nat × AV)} : look ((t, v) :: l) t = v := by
  show (bif Nat.beq t t then v else _) = v
  rw [Nat.beq_refl]; rfl

theorem lowH_mono {k k' : Nat} (hk : k ≤ k') : ∀ (l : List AObj), lowH k l = true → lowH k' l = true
  | [], _ => rfl
  | o :: l, h => by
    simp only [lowH, Bool.and_eq_true] at h ⊢
    refine ⟨?_, lowH_mono hk l h.2⟩
    cases o with
    | row cells => exact lowL_mono hk cells h.1
    | buf sz n cells => exact lowL_mono hk cells h.1
    | _ => rfl

/-- A call that is handed objects without names in them, and whose results have none. -/
theorem callS1 {P : Program} {E : Env} {o : Oper} {ρ : Operand → AV} {H : List AObj} {f : Operand} {as : List Operand} {ats : Array TypeId} {g : FuncId} {first cap : List AV} (ho : o.op = .call ⟨.value f, as.toArray, ats⟩) (hf : ρ f = .fn (.func g) first cap)
    {args : List AV} {hc h0 : List AObj} {r0 : AV} (S : Spec P g args hc (fun r h' => r = r0 ∧ h' = h0)) (fs : List Nat) (hnd : fs.Nodup)
    (hobj : fs.map (fun j => H[j]?) = hc.map some) (hargs : first ++ (as.map ρ ++ cap) = renL (fsf fs) args) (hla : lowL fs.length args = true) (hlow : lowH 0 hc = true) (hlow' : lowH 0 h0 = true) (hr0 : ren (fsf fs) r0 = r0)
    {H' : List AObj} (hH : updH H fs h0 = H') : OpS P E o ρ H r0 H' :=
  callS ho hf S fs hnd (by rw [hobj]; have := renH_low (fsf fs) hc hlow; rw [show hc.map (fun o => some (renO (fsf fs) o)) = (hc.map (renO (fsf fs))).map some by simp, this]) (lowH_mono (Nat.zero_le _) hc hlow) hargs hla hr0
    (by rw [renH_low (fsf fs) h0 hlow']; exact hH)

/-- A contract with room for a result, told without it. -/
theorem Spec.drop {P : Program} {f : FuncId} {args : List AV} {h : List AObj} {Q Q' : AV → List AObj → Prop} (S : Spec P f args (h ++ [.room]) Q)
    (hQ : ∀ r h', Q r h' → ∃ r', AV.le r r' ∧ low h.length r' = true ∧ lowH h.length (h'.take h.length) = true ∧ Q' r' (h'.take h.length)) : Spec P f args h Q' := by
  refine ⟨S.1, fun G w vals h1 h2 htab hw => ?_⟩
  have hw1 : WRel ⟨w, G, htab⟩ G (h ++ [.room]) w := by
    refine ⟨hw.le, hw.imm, hw.immNew, hw.keep, hw.size, hw.os, hw.tape, hw.output, hw.own, fun i hi => hw.fresh i (by simp at hi; omega), fun i o hi => ?_⟩
    by_cases hlt : i < h.length
    · rw [List.getElem?_append_left hlt] at hi; exact hw.obj i o hi
    · rw [List.getElem?_append_right (by omega)] at hi
      have hi0 : i - h.length = 0 := by have := (List.getElem?_eq_some_iff.1 hi).1; simp at this; omega
      rw [hi0] at hi
      simp at hi
      subst hi
      exact hw.fresh i (by omega)
  refine (S.2 G w vals h1 h2 htab hw1).mono ?_
  rintro e w' ⟨v, r, h', G', rfl, q1, q2, q3, q4, q5, q6⟩
  obtain ⟨r', k1, k2, k3, k4⟩ := hQ r h' q1
  simp only [List.length_append, List.length_cons, List.length_nil] at q2
  have hlen : (h'.take h.length).length = h.length := by simp; omega
  exact ⟨v, r', h'.take h.length, cutG h.length G', rfl, k4, hlen, k2, k3, (k1 _ _ q5).cut k2, q6.cut (fun i hi => hw.fresh i hi) hlen (fun i hi => by rw [List.getElem?_take, if_pos hi]) k3⟩

/-- A slice held against nil: told is alone that nil has no elements. -/
theorem eqNil_ok {P : Program} {E : Env} {T : Tr} {o : Oper} {ρ : Operand → AV} {h : List AObj} (hT : TOk P T) (hρ : ∀ z, ρ (.const z) = ofVal z) {t yt sz : Nat} {x : Operand} {es : List (List Dat)} (ho : o.op = .binOp .eql t x (.const (.slice none 0 0)) yt)
    (ht : isSliceT T t = true) (hx : asEs (ρ x) = some (sz, es)) : OpR P E o ρ h (fun v h' => h' = h ∧ ∃ b, v = .d (.bool b) ∧ (b = true → es = [])) := by
  intro G a w hw hr
  have hx' := asEs_ok (hr x (by simp [ho, Op.operands])) hx
  have hy' : RepA G (ρ (.const (.slice none 0 0))) (a.eval (.const (.slice none 0 0))) := hr _ (by simp [ho, Op.operands])
  obtain ⟨et, hu⟩ := und_of_slice hT ht
  obtain ⟨p, cap, hv, hn, hp⟩ := hx'.slice_inv
  have hcn : a.eval (.const (.slice none 0 0)) = .slice none 0 0 := rfl
  have hrun : ∃ b, (execOp a.eval o).run P w = .ok (.value (.bool b)) w ∧ (b = true → es = []) := by
    have hg : ∀ q : Option Addr, (eqGuard .eql t x (.const (.slice none 0 0)) (.slice q es.length cap) (.slice none 0 0)).run P w = .ok () w := fun q => eqGuard_run _ _ _ _ _ _ (by simp) (by simp)
    cases p with
    | none =>
      refine ⟨true, ?_, fun _ => (hn rfl).1⟩
      have he : (Op.equal t (.slice none es.length cap) (.slice none 0 0)).run P w = .ok true w := by
        show (Op.equalIn (9999 + 1) t _ _).run P w = _
        rw [Op.equalIn]
        simp [run_underlying hu]
      unfold execOp
      simp only [ho, Sem.run_bind]
      rw [hv, hcn, hg]
      simp [Go.binOp, he]
    | some q =>
      refine ⟨false, ?_, fun hb => by cases hb⟩
      have he : (Op.equal t (.slice (some q) es.length cap) (.slice none 0 0)).run P w = .ok false w := by
        show (Op.equalIn (9999 + 1) t _ _).run P w = _
        rw [Op.equalIn]
        simp [run_underlying hu]
      unfold execOp
      simp only [ho, Sem.run_bind]
      rw [hv, hcn, hg]
      simp [Go.binOp, he]
  obtain ⟨b, h1, h2⟩ := hrun
  unfold Oper.wp
  rw [h1]
  exact ⟨.bool b, G, .d (.bool b), h, ⟨rfl, b, rfl, h2⟩, rfl, .refl G, hw, .d (.bool b)⟩

/-- A slice without spare room that stands in an object, told as one that may be appended to. -/
theorem Rel_acquireH {E : Env} {N : Nat} {τ : Nat → AV} {h : List AObj} (i off j sz : Nat) {es : List (List Dat)} {cells : List AV} (hi : h[i]? = some (.row cells)) (hc : cells[off]? = some (.sl sz es .full)) (hj : h[j]? = some .room) :
    ∀ a w, Rel E N τ h a w → Rel E N τ ((h.set j (.right sz es.length)).set i (.row (cells.set off (.sl sz es (.right j))))) a w := by
  rintro a w ⟨h1, h2, G, hw, hr⟩
  have hij : j ≠ i := fun hh => by rw [hh, hi] at hj; cases hj
  obtain ⟨b, b1, b2, b3, b4⟩ := hw.obj i _ hi
  obtain ⟨v, v1, v2, v3, v4⟩ := b3 off _ hc
  obtain ⟨p, rfl, hrep⟩ : ∃ p, v = .slice p es.length es.length ∧ RepD G.imm (.sl sz es) v := by
    cases v3 with
    | sl r k => obtain ⟨p, rfl⟩ := k; exact ⟨p, rfl, r⟩
  obtain ⟨hle, hw1, hrs⟩ := hw.acquire hj hrep
  refine ⟨h1, h2, _, ⟨hw1.le, hw1.imm, hw1.immNew, hw1.keep, hw1.size, hw1.os, hw1.tape, hw1.output, hw1.own, fun k hk => hw1.fresh k (by simpa using hk), fun k o hk => ?_⟩, fun t => (hr t).mono hle⟩
  rw [List.getElem?_set] at hk
  split at hk
  · rename_i e; subst e
    split at hk
    · cases hk
      have hio : (h.set j (.right sz es.length))[i]? = some (.row cells) := by rw [List.getElem?_set_ne hij]; exact hi
      obtain ⟨b', c1, c2, c3, c4⟩ := hw1.obj i _ hio
      refine ⟨b', c1, c2, fun q c hq => ?_, c4⟩
      rw [List.getElem?_set] at hq
      split at hq
      · rename_i e2; subst e2
        split at hq
        · cases hq
          obtain ⟨u, u1, u2, u3, u4⟩ := c3 off _ hc
          have hbb : b' = b := by
            have hl2 : (acqG G j es.length p).loc i = G.loc i := rfl
            rw [hl2, b1] at c1; cases c1; rfl
          subst hbb
          exact ⟨_, v1, v2, hrs, v4⟩
        · cases hq
      · exact c3 q c hq
    · cases hk
  · exact hw1.obj k o hk

theorem AW_acquireH {P : Program} {E : Env} {N : Nat} {Q : Exit → (Nat → AV) → List AObj → Prop} {τ : Nat → AV} {h : List AObj} {c : Code} (i off j sz : Nat) {es : List (List Dat)} {cells : List AV} (hi : h[i]? = some (.row cells)) (hc : cells[off]? = some (.sl sz es .full)) (hj : h[j]? = some .room)
    (hw : AW P E N c Q τ ((h.set j (.right sz es.length)).set i (.row (cells.set off (.sl sz es (.right j)))))) : AW P E N c Q τ h := AW_sub (Rel_acquireH i off j sz hi hc hj) hw
end Tdoc
