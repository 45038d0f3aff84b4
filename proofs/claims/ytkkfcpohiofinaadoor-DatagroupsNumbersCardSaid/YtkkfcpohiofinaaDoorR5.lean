/- Tables and arrays at an index. No program is named here. -/
import Derived.Test.YtkkfcpohiofinaaDoorR4
set_option linter.unusedSimpArgs false
set_option linter.unusedVariables false
namespace Tdoc
open Go

/-- An array type: how many elements, of which size. -/
def arrT (T : Tr) (t : Nat) : Option (Nat × Nat × Bool) := match T.find t with
  | some i => match i.kind with
    | .array n e => match T.find e with
      | some ie => some (n, ie.size, ie.agg)
      | none => none
    | _ => none
  | none => none

theorem arrT_ok {P : Program} {T : Tr} (hT : TOk P T) {t n sz : Nat} {g : Bool} (h : arrT T t = some (n, sz, g)) : ∃ e ie, P.underlying t = some (.array n e) ∧ TypeAt P e ie ∧ ie.size = sz ∧ ie.agg = g := by
  unfold arrT at h
  split at h
  · rename_i i hi
    split at h
    · rename_i n' e hk
      split at h
      · rename_i ie hie
        cases h
        obtain ⟨d, hd, hkd⟩ := (hT.at hi).und
        rw [hk] at hkd
        cases d <;> simp [kindOk] at hkd
        obtain ⟨rfl, rfl⟩ := hkd
        exact ⟨_, ie, hd, hT.at hie, rfl, rfl⟩
      · cases h
    · cases h
  · cases h

section
variable {P : Program} {E : Env} {T : Tr} {o : Oper} {ρ : Operand → AV} {h h' : List AObj} {v : AV}

/-- An element of a table. -/
theorem arrAddr_ok (hT : TOk P T) {t n sz : Nat} {g : Bool} {x ix : Operand} {k : IntKind} {j : Int} {cs : List Dat} (ho : o.op = .indexAddr t x ix) (ht : arrT T t = some (n, sz, g)) (hx : ρ x = .iptr cs) (hix : ρ ix = .d (.int k j)) (h0 : 0 ≤ j ∧ j < (n : Int)) :
    OpP P o ρ (.iptr (cs.drop (j.toNat * sz))) := by
  intro G e w hi hr
  have hx' : RepA G (ρ x) (e x) := hr x (by simp [ho, Op.operands])
  have hix' : RepA G (ρ ix) (e ix) := hr ix (by simp [ho, Op.operands])
  rw [hx] at hx'; rw [hix] at hix'
  obtain ⟨et, ie, h1, h2, h3, h4⟩ := arrT_ok hT ht
  obtain ⟨a, hv, hd⟩ := iptr_drop hx' (j.toNat * sz)
  refine ⟨_, ?_, hd⟩
  unfold execOp
  simp only [ho, Sem.run_bind]
  rw [hv, hix'.int_inv]
  simp [Instr.indexAt, asIntOf, run_underlying h1, Instr.sureAddr, h0.1, h0.2, h2.run_size, h3]

/-- append, the right's count told by the list. -/
theorem append_rightL (hT : TOk P T) {t t2 sz by_ i : Nat} {s x : Operand} {es es2 : List (List Dat)} (ho : o.op = .call { callee := .builtin .append, args := #[s, x], argTypes := #[t, t2] })
    (ht : appT T t = some (sz, by_)) (ht2 : srcT T t2 = true) (hs : ρ s = .sl sz es (.right i)) (hi : h[i]? = some (.right sz es.length)) (hx : asNew sz (ρ x) = some es2)
    (hb : (es.length + es2.length) * (by_ + 1) ≤ 140737488355328) :
    OpS P E o ρ h (.sl sz (es ++ es2) (.right i)) (h.set i (.right sz (es ++ es2).length)) := by
  rw [List.length_append]
  exact append_right hT ho ht ht2 hs hi hx hb

/-- A store into a buffer, all told apart. -/
theorem bufStoreE (hT : TOk P T) {t i n off sz : Nat} {ti : TI} {x y : Operand} {cells : List AV} {vy : AV} (ho : o.op = .store t x y) (hx : ρ x = .bp i n off) (hyv : ρ y = vy) (hi : h[i]? = some (.buf sz n cells)) (hf : T.find t = some ti) (hsz : Nat.beq ti.size 1 = true)
    (hs : scalarA vy = true) (hlt : off < cells.length) (hh : h.set i (.buf sz n (cells.set off vy)) = h') : OpS P E o ρ h .any h' := by
  subst hyv; subst hh
  exact bufStore_ok hT ho hx hi hf hsz hs hlt

/-- An element of an array that is a value. -/
theorem arrIdx_ok (hT : TOk P T) {t n : Nat} {x ix : Operand} {k : IntKind} {j : Int} {cs : List AV} (ho : o.op = .index t x ix) (ht : arrT T t = some (n, 1, false)) (hx : ρ x = .agg cs) (hix : ρ ix = .d (.int k j)) (h0 : 0 ≤ j ∧ j < (n : Int))
    (hv : cs[j.toNat]? = some v) : OpP P o ρ v := by
  intro G e w hi hr
  have hx' : RepA G (ρ x) (e x) := hr x (by simp [ho, Op.operands])
  have hix' : RepA G (ρ ix) (e ix) := hr ix (by simp [ho, Op.operands])
  rw [hx] at hx'; rw [hix] at hix'
  obtain ⟨et, ie, h1, h2, h3, h4⟩ := arrT_ok hT ht
  generalize hu : e x = u at hx'
  cases hx' with
  | agg us h5 h6 h7 =>
  have hlt : j.toNat < us.size := by rw [h5]; exact (List.getElem?_eq_some_iff.1 hv).1
  have hg : us[j.toNat]? = some us[j.toNat] := by simp [hlt]
  refine ⟨us[j.toNat], ?_, h6 _ v _ hv hg⟩
  unfold execOp
  simp only [ho, Sem.run_bind]
  rw [hu, hix'.int_inv]
  simp [Instr.index, asIntOf, run_underlying h1, h0.1, h0.2, h2.run_size, h3, Go.part, h2.run_agg, h4, hg]
end
end Tdoc
