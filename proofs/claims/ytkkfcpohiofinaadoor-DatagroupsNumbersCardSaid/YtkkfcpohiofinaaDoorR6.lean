/- Contracts at weaker arguments. No program is named here. -/
import Derived.Test.YtkkfcpohiofinaaDoorR5
set_option linter.unusedSimpArgs false
set_option linter.unusedVariables false
namespace Tdoc
open Go

theorem Spec.args {P : Program} {f : FuncId} {args args' : List AV} {h : List AObj} {Q : AV → List AObj → Prop} (hl : AllLe args args') (S : Spec P f args' h Q) : Spec P f args h Q := by
  obtain ⟨h1, h2⟩ := AllLe_at hl
  refine ⟨S.1, fun G w vals hs hv ht hw => S.2 G w vals (hs.trans h1) (fun j y v hy hj => ?_) ht hw⟩
  obtain ⟨x, hx, hle⟩ := h2 j y hy
  exact hle _ _ (hv j x v hx hj)

theorem callS0L {P : Program} {E : Env} {o : Oper} {ρ : Operand → AV} {H : List AObj} {f : Operand} {as : List Operand} {ats : Array TypeId} {g : FuncId} {first cap : List AV} (ho : o.op = .call ⟨.value f, as.toArray, ats⟩) (hf : ρ f = .fn (.func g) first cap)
    {args args' : List AV} {r0 : AV} (S : Spec P g args' [] (fun r h' => r = r0 ∧ h' = [])) (hargs : first ++ (as.map ρ ++ cap) = args) (hle : AllLe args args') (hla : lowL 0 args = true) (hr0 : low 0 r0 = true) : OpS P E o ρ H r0 H :=
  callS0 ho hf (Spec.args hle S) hargs hla hr0
end Tdoc
