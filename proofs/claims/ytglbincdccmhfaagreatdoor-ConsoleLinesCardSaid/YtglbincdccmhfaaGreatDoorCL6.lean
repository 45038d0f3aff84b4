/- Part 6 of the proof: the texts R48. -/
import Derived.Test.YtglbincdccmhfaaGreatDoorCL5
set_option linter.unusedSimpArgs false
set_option linter.unusedVariables false
namespace Tdoc
open Go
section
variable {P:Program} {E:Env} {o:Oper} {ρ:Operand→AV} {h:List AObj}
theorem eqFn_ok {t yt:Nat} {x y:Operand} {f:Fn} {first cap:List AV} {ps rs:Array TypeId} {vr:Bool} (ho:o.op=.binOp .eql t x y yt) (hu:P.underlying t=some (.func ps rs vr)) (hx:ρ x=.fn f first cap) (hy:ρ y=.nilf):OpP P o ρ (.d (.bool false)):=by
 intro G e w hi hr
 have hx':RepA G (ρ x) (e x):=hr x (by simp [ho,Op.operands])
 have hy':RepA G (ρ y) (e y):=hr y (by simp [ho,Op.operands])
 rw [hx] at hx';rw [hy] at hy'
 have ey:e y=.nilFunc:=by
  generalize e y=v at hy'
  cases hy';rfl
 obtain ⟨fs,cs,ex⟩:∃ fs cs,e x=.func f fs cs:=by
  generalize e x=v at hx'
  cases hx' with
  | fn _ fs cs _ _ _ _=>exact ⟨fs,cs,rfl⟩
 refine ⟨.bool false,?_,.d (.bool false)⟩
 have hg:(eqGuard .eql t x y (.func f fs cs) .nilFunc).run P w=.ok () w:=eqGuard_run _ _ _ _ _ _ (by simp) (by simp)
 have he:(Op.equal t (.func f fs cs) .nilFunc).run P w=.ok false w:=by
  show (Op.equalIn (9999+1) t _ _).run P w=_
  rw [Op.equalIn]
  simp [run_underlying hu]
 unfold execOp
 simp only [ho,Sem.run_bind]
 rw [ex,ey,hg]
 simp [Go.binOp,he]
end
end Tdoc
