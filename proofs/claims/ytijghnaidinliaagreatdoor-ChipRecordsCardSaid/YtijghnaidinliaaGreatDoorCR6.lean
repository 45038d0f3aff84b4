/- Part 6 of the proof: the texts C1 WW E1 Y1 E2 E3 E4 E5 E6 E7 E8 E9 E10 E11 E12 E13 E14 E15 E16 E17 E18 E19 E20 E21 E22 E23 E24 E25 G1 G2 G3 Y4 Y5 Z4 Z5 Z6 ZF ZG RB0 JA Y2 JB KI J1 JC J2 J3 J4 J5 J6 Y8 Y7 Z1 Z2 ZM Y3 Z3 ZN ZC0 ZC ZO ZD ZR ZE ZP ZQ ZU Y9. -/
import Derived.Test.YtijghnaidinliaaGreatDoorProg
import Derived.Test.YtijghnaidinliaaGreatDoorCR4
set_option linter.unusedVariables false
set_option linter.unusedSimpArgs false
set_option maxHeartbeats 8000000
set_option maxRecDepth 100000
namespace Tdoc
open Go Go.Proofs
def T:Tr:=(.nd (.nd (.nd (.nd (.nd (.nd (.nd .lf 2 ⟨.int .i64,1,8,[.d (.int .i64 0)]⟩ .lf) 3 ⟨.int .i64,1,8,[.d (.int .i64 0)]⟩ .lf) 4 ⟨.bool,1,1,[.d (.bool false)]⟩ (.nd .lf 5 ⟨.int .u8,1,1,[.d (.int .u8 0)]⟩ .lf)) 9 ⟨.str,1,16,[.d (.str [])]⟩ (.nd (.nd (.nd .lf 12 ⟨.int .u64,1,8,[.d (.int .u64 0)]⟩ .lf) 21 ⟨.int .i32,1,4,[.d (.int .i32 0)]⟩ .lf) 22 ⟨.slice 5,1,24,[.sl 1 [] .full]⟩ (.nd .lf 23 ⟨.slice 89,1,24,[.sl 5 [] .full]⟩ .lf))) 25 ⟨.struct [(0,1,false),(1,1,false)],2,32,[.sl 5 [] .full,.d (.int .i64 0)]⟩ (.nd (.nd (.nd (.nd .lf 27 ⟨.struct [(0,1,false),(1,1,false),(2,1,false),(3,2,true)],5,72,[.d (.int .i64 0),.d (.int .i64 0),.sl 1 [] .full,.sl 5 [] .full,.d (.int .i64 0)]⟩ .lf) 28 ⟨.slice 3,1,24,[.sl 1 [] .full]⟩ .lf) 31 ⟨.ptr,1,8,[.nilp]⟩ (.nd .lf 35 ⟨.int .i64,1,8,[.d (.int .i64 0)]⟩ .lf)) 44 ⟨.slice 101,1,24,[.sl 5 [] .full]⟩ (.nd (.nd (.nd .lf 45 ⟨.slice 103,1,24,[.sl 2 [] .full]⟩ .lf) 47 ⟨.struct [(0,1,false),(1,1,false)],2,48,[.sl 5 [] .full,.sl 2 [] .full]⟩ .lf) 48 ⟨.slice 105,1,24,[.sl 5 [] .full]⟩ (.nd .lf 50 ⟨.struct [(0,2,true),(2,1,false),(3,1,false),(4,1,false),(5,1,false),(6,1,false),(7,1,false),(8,1,false),(9,1,false),(10,1,false),(11,1,false),(12,2,true),(14,1,false),(15,1,false)],16,280,[.sl 5 [] .full,.sl 2 [] .full,.d (.str []),.sl 1 [] .full,.sl 1 [] .full,.sl 1 [] .full,.d (.int .i64 0),.d (.int .i64 0),.d (.bool false),.sl 5 [] .full,.d (.int .i64 0),.d (.int .i64 0),.sl 5 [] .full,.d (.int .i64 0),.sl 1 [] .full,.sl 1 [] .full]⟩ .lf)))) 53 ⟨.array 2 22,2,48,[.sl 1 [] .full,.sl 1 [] .full]⟩ (.nd (.nd (.nd (.nd (.nd .lf 55 ⟨.struct [(0,2,true)],2,48,[.sl 1 [] .full,.sl 1 [] .full]⟩ .lf) 57 ⟨.struct [(0,1,false),(1,1,false)],2,16,[.d (.int .i64 0),.d (.int .i64 0)]⟩ .lf) 59 ⟨.struct [(0,1,false),(1,1,false),(2,1,false),(3,1,false),(4,1,false)],5,24,[.d (.int .i64 0),.d (.bool false),.d (.bool false),.d (.bool false),.d (.int .i64 0)]⟩ (.nd .lf 61 ⟨.struct [(0,1,false),(1,1,false),(2,1,false)],3,56,[.sl 1 [] .full,.sl 1 [] .full,.d (.int .i64 0)]⟩ .lf)) 63 ⟨.struct [(0,1,false),(1,1,false)],2,32,[.d (.int .i64 0),.sl 1 [] .full]⟩ (.nd (.nd (.nd .lf 65 ⟨.struct [(0,2,true),(2,1,false),(3,1,false),(4,1,false),(5,1,false),(6,1,false),(7,1,false),(8,1,false),(9,3,true)],12,160,[.d (.int .i64 0),.sl 1 [] .full,.d (.int .i64 0),.d (.int .i64 0),.sl 1 [] .full,.d (.int .i64 0),.d (.int .i64 0),.d (.int .i64 0),.d (.int .i64 0),.sl 1 [] .full,.sl 1 [] .full,.d (.int .i64 0)]⟩ .lf) 67 ⟨.struct [(0,1,false),(1,1,false),(2,1,false),(3,1,false),(4,1,false),(5,1,false)],6,56,[.d (.str []),.d (.int .i64 0),.d (.int .i64 0),.d (.int .i64 0),.d (.int .i64 0),.d (.int .i64 0)]⟩ .lf) 69 ⟨.struct [(0,1,false),(1,1,false),(2,1,false),(3,1,false),(4,1,false),(5,1,false)],6,64,[.d (.int .i64 0),.d (.int .i64 0),.d (.int .i64 0),.d (.int .i64 0),.sl 1 [] .full,.d (.int .i64 0)]⟩ (.nd .lf 71 ⟨.struct [(0,16,true),(16,2,true),(18,1,false),(19,1,false),(20,2,true),(22,5,true),(27,1,false),(28,3,true),(31,1,false),(32,1,false),(33,12,true),(45,1,false),(46,6,true),(52,1,false),(53,1,false),(54,6,true)],60,816,[.sl 5 [] .full,.sl 2 [] .full,.d (.str []),.sl 1 [] .full,.sl 1 [] .full,.sl 1 [] .full,.d (.int .i64 0),.d (.int .i64 0),.d (.bool false),.sl 5 [] .full,.d (.int .i64 0),.d (.int .i64 0),.sl 5 [] .full,.d (.int .i64 0),.sl 1 [] .full,.sl 1 [] .full,.sl 1 [] .full,.sl 1 [] .full,.sl 1 [] .full,.d (.bool false),.d (.int .i64 0),.d (.int .i64 0),.d (.int .i64 0),.d (.bool false),.d (.bool false),.d (.bool false),.d (.int .i64 0),.d (.bool false),.sl 1 [] .full,.sl 1 [] .full,.d (.int .i64 0),.d (.int .i64 0),.d (.int .i64 0),.d (.int .i64 0),.sl 1 [] .full,.d (.int .i64 0),.d (.int .i64 0),.sl 1 [] .full,.d (.int .i64 0),.d (.int .i64 0),.d (.int .i64 0),.d (.int .i64 0),.sl 1 [] .full,.sl 1 [] .full,.d (.int .i64 0),.sl 1 [] .full,.d (.str []),.d (.int .i64 0),.d (.int .i64 0),.d (.int .i64 0),.d (.int .i64 0),.d (.int .i64 0),.sl 1 [] .full,.d (.bool false),.d (.int .i64 0),.d (.int .i64 0),.d (.int .i64 0),.d (.int .i64 0),.sl 1 [] .full,.d (.int .i64 0)]⟩ .lf))) 81 ⟨.struct [(0,1,false),(1,1,false)],2,32,[.sl 1 [] .full,.d (.int .i64 0)]⟩ (.nd (.nd (.nd (.nd .lf 85 ⟨.struct [(0,1,false),(1,1,false)],2,32,[.sl 1 [] .full,.d (.int .i64 0)]⟩ .lf) 89 ⟨.struct [(0,1,false),(1,1,false),(2,1,false),(3,1,false),(4,1,false)],5,48,[.d (.str []),.d (.int .i64 0),.d (.int .i64 0),.d (.int .i64 0),.d (.int .i64 0)]⟩ .lf) 91 ⟨.int .u64,1,8,[.d (.int .u64 0)]⟩ (.nd .lf 92 ⟨.array 2 3,2,16,[.d (.int .i64 0),.d (.int .i64 0)]⟩ .lf)) 99 ⟨.struct [(0,1,false),(1,1,false)],2,16,[.d (.int .i64 0),.d (.int .i64 0)]⟩ (.nd (.nd .lf 101 ⟨.struct [(0,1,false),(1,1,false),(2,1,false),(3,2,true)],5,56,[.d (.int .i64 0),.d (.int .i64 0),.sl 1 [] .full,.d (.int .i64 0),.d (.int .i64 0)]⟩ .lf) 103 ⟨.struct [(0,1,false),(1,1,false)],2,48,[.sl 1 [] .full,.sl 5 [] .full]⟩ (.nd .lf 105 ⟨.struct [(0,1,false),(1,1,false),(2,1,false),(3,1,false),(4,1,false)],5,40,[.d (.int .i64 0),.d (.int .i64 0),.d (.int .i64 0),.d (.int .i64 0),.d (.int .i64 0)]⟩ .lf))))) 119 ⟨.ptr,1,8,[.nilp]⟩ (.nd (.nd (.nd (.nd (.nd (.nd .lf 121 ⟨.struct [(0,60,true),(60,5,true),(65,1,false),(66,1,false),(67,1,false),(68,1,false),(69,1,false)],70,936,[.sl 5 [] .full,.sl 2 [] .full,.d (.str []),.sl 1 [] .full,.sl 1 [] .full,.sl 1 [] .full,.d (.int .i64 0),.d (.int .i64 0),.d (.bool false),.sl 5 [] .full,.d (.int .i64 0),.d (.int .i64 0),.sl 5 [] .full,.d (.int .i64 0),.sl 1 [] .full,.sl 1 [] .full,.sl 1 [] .full,.sl 1 [] .full,.sl 1 [] .full,.d (.bool false),.d (.int .i64 0),.d (.int .i64 0),.d (.int .i64 0),.d (.bool false),.d (.bool false),.d (.bool false),.d (.int .i64 0),.d (.bool false),.sl 1 [] .full,.sl 1 [] .full,.d (.int .i64 0),.d (.int .i64 0),.d (.int .i64 0),.d (.int .i64 0),.sl 1 [] .full,.d (.int .i64 0),.d (.int .i64 0),.sl 1 [] .full,.d (.int .i64 0),.d (.int .i64 0),.d (.int .i64 0),.d (.int .i64 0),.sl 1 [] .full,.sl 1 [] .full,.d (.int .i64 0),.sl 1 [] .full,.d (.str []),.d (.int .i64 0),.d (.int .i64 0),.d (.int .i64 0),.d (.int .i64 0),.d (.int .i64 0),.sl 1 [] .full,.d (.bool false),.d (.int .i64 0),.d (.int .i64 0),.d (.int .i64 0),.d (.int .i64 0),.sl 1 [] .full,.d (.int .i64 0),.d (.int .i64 0),.d (.int .i64 0),.sl 1 [] .full,.sl 5 [] .full,.d (.int .i64 0),.d (.int .i64 0),.d (.int .i64 0),.d (.bool false),.d (.bool false),.sl 1 [] .full]⟩ .lf) 126 ⟨.slice 22,1,24,[.sl 1 [] .full]⟩ .lf) 128 ⟨.ptr,1,8,[.nilp]⟩ (.nd .lf 130 ⟨.struct [(0,1,false),(1,1,false),(2,1,false)],3,40,[.sl 1 [] .full,.d (.int .i64 0),.d (.bool false)]⟩ .lf)) 142 ⟨.ptr,1,8,[.nilp]⟩ (.nd (.nd (.nd .lf 143 ⟨.slice 142,1,24,[.sl 1 [] .full]⟩ .lf) 154 ⟨.struct [(0,1,false),(1,1,false)],2,32,[.d (.int .i64 0),.sl 1 [] .full]⟩ .lf) 182 ⟨.struct [(0,1,false),(1,1,false),(2,1,false),(3,1,false)],4,32,[.d (.int .i64 0),.d (.int .i64 0),.d (.int .i64 0),.d (.bool false)]⟩ (.nd .lf 183 ⟨.slice 182,1,24,[.sl 4 [] .full]⟩ .lf))) 184 ⟨.slice 201,1,24,[.sl 3 [] .full]⟩ (.nd (.nd (.nd (.nd .lf 188 ⟨.struct [(0,3,true),(3,1,false)],4,80,[.sl 1 [] .full,.sl 1 [] .full,.d (.int .i64 0),.sl 1 [] .full]⟩ .lf) 201 ⟨.struct [(0,1,false),(1,1,false),(2,1,false)],3,56,[.d (.int .i64 0),.sl 1 [] .full,.sl 3 [] .full]⟩ .lf) 229 ⟨.struct [(0,1,false),(1,1,false)],2,16,[.d (.int .i64 0),.d (.int .i64 0)]⟩ (.nd .lf 231 ⟨.struct [(0,1,false),(1,1,false),(2,1,false),(3,1,false),(4,1,false),(5,1,false),(6,1,false),(7,2,true)],9,88,[.d (.str []),.d (.str []),.d (.int .i64 0),.d (.int .i64 0),.d (.int .i64 0),.d (.int .i64 0),.d (.int .i64 0),.d (.int .i64 0),.d (.int .i64 0)]⟩ .lf)) 240 ⟨.struct [(0,1,false),(1,1,false),(2,1,false),(3,1,false)],4,48,[.sl 1 [] .full,.d (.int .i64 0),.d (.bool false),.d (.int .i64 0)]⟩ (.nd (.nd (.nd .lf 246 ⟨.ptr,1,8,[.nilp]⟩ .lf) 249 ⟨.ptr,1,8,[.nilp]⟩ .lf) 252 ⟨.fn,1,8,[.nilf]⟩ (.nd .lf 256 ⟨.int .u32,1,4,[.d (.int .u32 0)]⟩ .lf)))) 258 ⟨.int .u64,1,8,[.d (.int .u64 0)]⟩ (.nd (.nd (.nd (.nd (.nd .lf 291 ⟨.slice 352,1,24,[.sl 3 [] .full]⟩ .lf) 298 ⟨.ptr,1,8,[.nilp]⟩ .lf) 301 ⟨.ptr,1,8,[.nilp]⟩ (.nd .lf 303 ⟨.array 16 5,16,16,[.d (.int .u8 0),.d (.int .u8 0),.d (.int .u8 0),.d (.int .u8 0),.d (.int .u8 0),.d (.int .u8 0),.d (.int .u8 0),.d (.int .u8 0),.d (.int .u8 0),.d (.int .u8 0),.d (.int .u8 0),.d (.int .u8 0),.d (.int .u8 0),.d (.int .u8 0),.d (.int .u8 0),.d (.int .u8 0)]⟩ .lf)) 304 ⟨.array 16 5,16,16,[.d (.int .u8 0),.d (.int .u8 0),.d (.int .u8 0),.d (.int .u8 0),.d (.int .u8 0),.d (.int .u8 0),.d (.int .u8 0),.d (.int .u8 0),.d (.int .u8 0),.d (.int .u8 0),.d (.int .u8 0),.d (.int .u8 0),.d (.int .u8 0),.d (.int .u8 0),.d (.int .u8 0),.d (.int .u8 0)]⟩ (.nd (.nd (.nd .lf 311 ⟨.array 4 5,4,4,[.d (.int .u8 0),.d (.int .u8 0),.d (.int .u8 0),.d (.int .u8 0)]⟩ .lf) 314 ⟨.ptr,1,8,[.nilp]⟩ .lf) 327 ⟨.slice 256,1,24,[.sl 1 [] .full]⟩ (.nd .lf 338 ⟨.array 4 337,8,64,[.d (.int .i64 0),.d (.int .i64 0),.d (.int .i64 0),.d (.int .i64 0),.d (.int .i64 0),.d (.int .i64 0),.d (.int .i64 0),.d (.int .i64 0)]⟩ .lf))) 343 ⟨.fn,1,8,[.nilf]⟩ (.nd (.nd (.nd (.nd .lf 344 ⟨.array 4 343,4,32,[.nilf,.nilf,.nilf,.nilf]⟩ .lf) 346 ⟨.ptr,1,8,[.nilp]⟩ .lf) 352 ⟨.struct [(0,1,false),(1,1,false),(2,1,false)],3,40,[.d (.int .i64 0),.d (.int .i64 0),.sl 1 [] .full]⟩ (.nd .lf 358 ⟨.ptr,1,8,[.nilp]⟩ .lf)) 362 ⟨.array 64 256,64,256,[.d (.int .u32 0),.d (.int .u32 0),.d (.int .u32 0),.d (.int .u32 0),.d (.int .u32 0),.d (.int .u32 0),.d (.int .u32 0),.d (.int .u32 0),.d (.int .u32 0),.d (.int .u32 0),.d (.int .u32 0),.d (.int .u32 0),.d (.int .u32 0),.d (.int .u32 0),.d (.int .u32 0),.d (.int .u32 0),.d (.int .u32 0),.d (.int .u32 0),.d (.int .u32 0),.d (.int .u32 0),.d (.int .u32 0),.d (.int .u32 0),.d (.int .u32 0),.d (.int .u32 0),.d (.int .u32 0),.d (.int .u32 0),.d (.int .u32 0),.d (.int .u32 0),.d (.int .u32 0),.d (.int .u32 0),.d (.int .u32 0),.d (.int .u32 0),.d (.int .u32 0),.d (.int .u32 0),.d (.int .u32 0),.d (.int .u32 0),.d (.int .u32 0),.d (.int .u32 0),.d (.int .u32 0),.d (.int .u32 0),.d (.int .u32 0),.d (.int .u32 0),.d (.int .u32 0),.d (.int .u32 0),.d (.int .u32 0),.d (.int .u32 0),.d (.int .u32 0),.d (.int .u32 0),.d (.int .u32 0),.d (.int .u32 0),.d (.int .u32 0),.d (.int .u32 0),.d (.int .u32 0),.d (.int .u32 0),.d (.int .u32 0),.d (.int .u32 0),.d (.int .u32 0),.d (.int .u32 0),.d (.int .u32 0),.d (.int .u32 0),.d (.int .u32 0),.d (.int .u32 0),.d (.int .u32 0),.d (.int .u32 0)]⟩ (.nd (.nd .lf 364 ⟨.array 8 256,8,32,[.d (.int .u32 0),.d (.int .u32 0),.d (.int .u32 0),.d (.int .u32 0),.d (.int .u32 0),.d (.int .u32 0),.d (.int .u32 0),.d (.int .u32 0)]⟩ .lf) 378 ⟨.array 0 16,0,0,[]⟩ (.nd .lf 385 ⟨.ptr,1,8,[.nilp]⟩ .lf))))))
theorem hT:TOk Tryz.prog T:=⟨by kernel_rfl⟩
theorem mixed:Tryz.prog.follows .mixedOrders=true:=by kernel_rfl
structure Box (p:Prop):Prop where
 out:p
theorem ww {g n:Prop} (k:n) (h:Box n→g:=by intro hk;(repeat (first | refine wk hT rfl rfl ?_ | refine wd hT rfl rfl rfl ?_ | refine wz hT rfl ?_ | refine qFv ?_ | refine qCc ?_ | refine wh hT rfl rfl rfl rfl ?_ | refine wg hT rfl rfl rfl rfl rfl ?_ | refine qAl ?_ | refine qAg ?_ | refine wx mixed ?_ | refine qKd ?_ | refine qFx ?_ | refine qFz ?_ | refine qNy ?_));exact hk.out):g:=h ⟨k⟩
theorem wwn {g n:Prop} (k:n) (h:Box n→g:=by intro hk;(repeat (first | refine wk hT rfl rfl ?_ | refine wd hT rfl rfl rfl ?_ | refine wz hT rfl ?_ | refine qFv ?_ | refine qCc ?_ | refine wh hT rfl rfl rfl rfl ?_ | refine wg hT rfl rfl rfl rfl rfl ?_ | refine qAl ?_ | refine qAg ?_ | refine qKd ?_ | refine qFx ?_ | refine qFz ?_ | refine qNy ?_));exact hk.out):g:=h ⟨k⟩
theorem wwg {g n:Prop} (k:n) (h:Box n→g:=by intro hk;(repeat (first | refine qKc hT rfl rfl rfl rfl (by first | exact List.mem_cons_self | exact sm) rfl ?_ | refine qDx hT (fun _=>rfl) rfl rfl (by first | exact True.intro | omega | exact sd) ?_ | refine qRv hT rfl rfl rfl (by first | exact List.mem_cons_self | exact sm) rfl ?_ | refine qFv ?_));exact hk.out):g:=h ⟨k⟩
theorem wws {g n:Prop} (k:n) (h:Box n→g:=by intro hk;(repeat (first | refine wk hT rfl rfl ?_ | refine wd hT rfl rfl rfl ?_ | refine wz hT rfl ?_ | refine qFv ?_ | refine qCc ?_ | refine wh hT rfl rfl rfl rfl ?_ | refine wg hT rfl rfl rfl rfl rfl ?_));exact hk.out):g:=h ⟨k⟩
theorem wwe {g n:Prop} (k:n) (h:Box n→g:=by intro hk;(repeat (first | refine qFz ?_ | refine qFx ?_));exact hk.out):g:=h ⟨k⟩
theorem wwr {g:Prop} (h:g:=by (first | exact rx ⟨rfl,rfl⟩ | exact rxN ⟨rfl,rfl⟩ | (refine rq ⟨rfl,rfl⟩ rfl ?_;repeat (first | exact trivial | exact AV.le.refl _ | exact AV.le.dat | exact AV.le.nils | exact AV.le.nilsf | exact AV.le.any _ | exact ObLe.refl _ | exact ⟨rfl,rfl⟩ | refine AV.le.tup ?_ | refine AV.le.agg ?_ | exact li | exact lb | exact ls | exact lk | exact ld | exact lz | refine ⟨?_,?_⟩)) | (refine rqN ⟨rfl,rfl⟩ rfl ?_;repeat (first | exact trivial | exact AV.le.refl _ | exact AV.le.dat | exact AV.le.nils | exact AV.le.nilsf | exact AV.le.any _ | exact ObLe.refl _ | exact ⟨rfl,rfl⟩ | refine AV.le.tup ?_ | refine AV.le.agg ?_ | exact li | exact lb | exact ls | exact lk | exact ld | exact lz | refine ⟨?_,?_⟩)))):g:=h
theorem wwc {A g n:Prop} (S:A) (k:n) (h:A→Box n→g:=by intro S hk;(first | refine qAd (qEv rfl rfl (S) rfl rfl rfl) rfl ?_ | refine qAz (qEv rfl rfl (S) rfl rfl rfl) rfl rfl ?_ | refine qAd (qJs rfl rfl (S) rfl (by repeat (first | exact trivial | exact AV.le.refl _ | exact AV.le.dat | exact AV.le.nils | exact AV.le.nilsf | exact AV.le.any _ | exact ObLe.refl _ | exact ⟨rfl,rfl⟩ | refine AV.le.tup ?_ | refine AV.le.agg ?_ | exact li | exact lb | exact ls | exact lk | exact ld | exact lz | refine ⟨?_,?_⟩)) rfl rfl) rfl ?_ | refine qAz (qJs rfl rfl (S) rfl (by repeat (first | exact trivial | exact AV.le.refl _ | exact AV.le.dat | exact AV.le.nils | exact AV.le.nilsf | exact AV.le.any _ | exact ObLe.refl _ | exact ⟨rfl,rfl⟩ | refine AV.le.tup ?_ | refine AV.le.agg ?_ | exact li | exact lb | exact ls | exact lk | exact ld | exact lz | refine ⟨?_,?_⟩)) rfl rfl) rfl rfl ?_);exact hk.out):g:=h S ⟨k⟩
theorem wwx {A g n:Prop} (S:A) (k:n) (h:A→Box n→g:=by intro S hk;(refine qFd (callX0 rfl rfl (S) rfl (by repeat (first | exact trivial | exact AV.le.refl _ | exact AV.le.dat | exact AV.le.nils | exact AV.le.nilsf | exact AV.le.any _ | exact ObLe.refl _ | exact ⟨rfl,rfl⟩ | refine AV.le.tup ?_ | refine AV.le.agg ?_ | exact li | exact lb | exact ls | exact lk | exact ld | exact lz | refine ⟨?_,?_⟩)) rfl (fun _=>rfl)) rfl ?_);exact hk.out):g:=h S ⟨k⟩
theorem wwgc {A g n:Prop} (S:A) (k:n) (h:A→Box n→g:=by intro S hk;(first | refine qFu rfl rfl rfl (fun hg=>⟨(sg (C:=True) hg).1,qEv rfl rfl (S) rfl rfl rfl⟩) ?_ | refine qFw rfl rfl rfl rfl (fun hg=>⟨(sg (C:=True) hg).1,qEv rfl rfl (S) rfl rfl rfl⟩) ?_);exact hk.out):g:=h S ⟨k⟩
theorem wwdc {A g n:Prop} (S:A) (k:n) (h:A→Box n→g:=by intro S hk;(first | refine qAk (os:=[]) (fun k hk1 hk2=>qEv rfl rfl (S) rfl rfl rfl) rfl ?_ | refine qAk (os:=[]) (fun k hk1 hk2=>qJs rfl rfl (S) rfl (by repeat (first | exact trivial | exact AV.le.refl _ | exact AV.le.dat | exact AV.le.nils | exact AV.le.nilsf | exact AV.le.any _ | exact ObLe.refl _ | exact ⟨rfl,rfl⟩ | refine AV.le.tup ?_ | refine AV.le.agg ?_ | exact li | exact lb | exact ls | exact lk | exact ld | exact lz | refine ⟨?_,?_⟩)) rfl rfl) rfl ?_);exact hk.out):g:=h S ⟨k⟩
theorem wwi {A g n:Prop} (S:A) (k:n) (h:A→Box n→g:=by intro S hk;(first | refine qAd (qAc (indexAddr_ok hT rfl rfl rfl rfl (by omega) (S))) rfl ?_ | refine qAz (qAc (indexAddr_ok hT rfl rfl rfl rfl (by omega) (S))) rfl rfl ?_);exact hk.out):g:=h S ⟨k⟩
theorem wwgi {A g n:Prop} (S:A) (k:n) (h:A→Box n→g:=by intro S hk;(first | refine qFu rfl rfl rfl (fun hg=>⟨(sg (C:=True) hg).1,qAc (indexAddr_ok hT rfl rfl rfl rfl (by omega) (S))⟩) ?_ | refine qFw rfl rfl rfl rfl (fun hg=>⟨(sg (C:=True) hg).1,qAc (indexAddr_ok hT rfl rfl rfl rfl (by omega) (S))⟩) ?_);exact hk.out):g:=h S ⟨k⟩
theorem wwk {A g n:Prop} (S:A) (k:n) (h:A→Box n→g:=by intro S hk;(repeat (first | refine qFw (v:=.d (.bool false)) rfl rfl rfl rfl (fun hg=>absurd hg (by rw [S];simp [gval])) ?_ | refine qFu (v:=.d (.bool false)) rfl rfl rfl (fun hg=>absurd hg (by rw [S];simp [gval])) ?_ | refine wk hT rfl rfl ?_ | refine wd hT rfl rfl rfl ?_ | refine wz hT rfl ?_ | refine qFv ?_ | refine qCc ?_ | refine wh hT rfl rfl rfl rfl ?_ | refine wg hT rfl rfl rfl rfl rfl ?_ | refine qAl ?_ | refine qAg ?_ | refine wx mixed ?_ | refine qKd ?_ | refine qFx ?_ | refine qFz ?_ | refine qNy ?_));exact hk.out):g:=h S ⟨k⟩
def qAe (s:List UInt8):List (List Dat):=s.map fun b=>[.int .u8 (b.toNat:Int)]
theorem encB_length (s:List UInt8):(qAe s).length=s.length:=by simp [qAe]
theorem encB_append (a b:List UInt8):qAe (a++b)=qAe a++qAe b:=by simp [qAe]
theorem encB_at {s:List UInt8} {i:Nat} (h:i < s.length):(qAe s)[i]?=some [.int .u8 (s[i].toNat:Int)]:=by simp [qAe,h]
theorem encB_take (s:List UInt8) (i:Nat):(qAe s).take i=qAe (s.take i):=by simp [qAe,List.map_take]
theorem encB_drop (s:List UInt8) (i:Nat):(qAe s).drop i=qAe (s.drop i):=by simp [qAe,List.map_drop]
def bI (c:UInt8):Int:=(c.toNat:Int)
def qSq (c:UInt8):Bool:=decide (65≤bI c∧bI c≤90)
theorem lowL_of {k:Nat}:∀ {l:List AV},(∀ c,c∈l→low k c=true)→qBy k l=true
 | [],_=>rfl
 | a::l,h=>by simp only [qBy,Bool.and_eq_true];exact ⟨h a (by simp),lowL_of fun c hc=>h c (by simp [hc])⟩
theorem byteAV_length (s:List UInt8):(qAr s).length=s.length:=by simp [qAr]
theorem byteAV_low {k:Nat} {s:List UInt8} {c:AV} (h:c∈qAr s):low k c=true:=by
 simp only [qAr,List.mem_map] at h
 obtain ⟨b,_,rfl⟩:=h;rfl
theorem lowL_bytes (k:Nat) (s:List UInt8):qBy k (qAr s)=true:=lowL_of fun c hc=>byteAV_low hc
theorem flatAV_encB (s:List UInt8):qAu (qAe s)=qAr s:=by
 induction s with
 | nil=>rfl
 | cons a s ih =>
  simp only [qAu,qAe,qAr,List.map_cons,List.flatten_cons,List.map_append] at ih ⊢
  rw [ih];rfl
theorem qDa (s:List UInt8):RowDat (qAr s) 0 1 (qAe s):=by
 refine ⟨fun e he=>?_,fun i e j d he hd=>?_⟩
 ·simp only [qAe,List.mem_map] at he
  obtain ⟨b,_,rfl⟩:=he;rfl
 ·simp only [qAe,List.getElem?_map,Option.map_eq_some_iff] at he
  obtain ⟨b,hb,rfl⟩:=he
  cases j with
  | zero=>simp at hd;subst hd;exact ⟨.d (.int .u8 (b.toNat:Int)),by simp [qAr,hb],rfl⟩
  | succ j=>simp at hd
theorem toNat_ofNat {n:Nat} (h:n < 256):(UInt8.ofNat n).toNat=n:=by simp;omega
def qRa (b:List UInt8) (i:Nat):Nat:=(b.getD i 0).toNat
theorem encB_byte {b:List UInt8} {i:Nat} (h:i < b.length):(qAe b)[i]?=some [.int .u8 (qRa b i:Int)]:=by
 rw [encB_at h];unfold qRa;rw [List.getD_eq_getElem?_getD,List.getElem?_eq_getElem h];rfl
set_option maxRecDepth 100000 in
theorem qHy (es:List (List Dat)) (hl:es.length≤2000000) :
  Spec Tryz.prog 36 [.d (.sl 1 es)] [] (fun r h'=>r=.d (.sl 1 es)∧h'=[]):=by
 refine qAa hT Tryz.func36 rfl rfl rfl rfl ?_
 intro E hE
 refine ww ?_
 refine qCl (eqNil_ok hT (fun _=>rfl) rfl rfl rfl) rfl ?_
 rintro v h' ⟨rfl,b,rfl,hb⟩
 refine ww ?_
 refine qAb rfl (fun h1=>?_) (fun h1=>?_)
 ·obtain rfl:=hb h1
  refine ww ?_
  exact qAx rfl AV.le.nils rfl rfl rfl rfl ⟨rfl,rfl⟩
 ·refine ww ?_
  refine qAd (qBn (es:=[]) hT rfl rfl rfl (.inl rfl) rfl (by show (([]:List (List Dat)).length+es.length)*(1+1)≤140737488355328;simp;omega)) rfl ?_
  refine ww ?_
  exact qAx rfl (.refl _) rfl rfl rfl rfl ⟨rfl,rfl⟩
def qLy (l:List Int):List (List Dat):=l.map fun n=>[.int .i64 n]
theorem encI_length (l:List Int):(qLy l).length=l.length:=by simp [qLy]
theorem encI_at {l:List Int} {i:Nat} (h:i < l.length):(qLy l)[((i:Int)).toNat]?=some [.int .i64 l[i]]:=by simp [qLy,h]
theorem byteCells_encB (v:List UInt8):qLd (qAe v):=fun e he=>by
 unfold qAe at he
 obtain ⟨x,_,rfl⟩:=List.mem_map.1 he
 exact ⟨_,rfl⟩
theorem bytesOf_encB (v:List UInt8):qJt (qAe v)=v:=by
 unfold qJt qAe
 rw [List.map_map]
 conv=>rhs;rw [← List.map_id v]
 apply List.map_congr_left
 intro x _
 show UInt8.ofNat ((x.toNat:Int)).toNat=x
 simp
set_option maxHeartbeats 4000000 in
set_option maxRecDepth 100000 in
theorem qDs (a:List UInt8) (ha:a.length≤1000000000):Spec Tryz.prog 15 [.d (.sl 1 (qAe a)),.d (.sl 1 (qAe a))] [] (fun r h'=>r=.d (.bool true)∧h'=[]):=by
 have hal:=encB_length a
 refine qAa hT Tryz.func15 rfl rfl rfl rfl ?_
 intro E hE
 refine ww ?_
 refine qAb rfl (fun h1=>?_) (fun h1=>?_)
 ·exact absurd h1 (by simp)
 ·refine ww ?_
  refine qAt (ι:=Nat) (fun i=>[(0,.d (.sl 1 (qAe a))),(1,.d (.sl 1 (qAe a))),(5,.I (i:Int))]) (fun _=>[]) (fun i=>i≤a.length) (fun i=>a.length-i) 0 (by omega) yf (HLe.refl _) ?_
  intro i hi
  have hwr:IntKind.i64.wrap ((i:Int)+1)=((i+1:Nat):Int):=by rw [qAf (by omega)];simp
  refine ww ?_
  refine qAb rfl (fun h2=>?_) (fun h2=>?_)
  ·have h2':i < a.length:=by rw [hal] at h2;simpa using h2
   have hel:(qAe a)[((i:Int)).toNat]?=some [.int .u8 (qRa a i:Int)]:=encB_byte h2'
   refine ww ?_
   refine qAz (qAc (indexAddr_ok hT rfl rfl rfl rfl (by omega) hel)) rfl rfl ?_
   refine ww ?_
   refine qAz (qAc (indexAddr_ok hT rfl rfl rfl rfl (by omega) hel)) rfl rfl ?_
   refine ww ?_
   refine qAb rfl (fun h3=>?_) (fun h3=>?_)
   ·exact absurd h3 (by simp)
   ·refine ww ?_
    exact ⟨i+1,by omega,by omega,⟨.refl _,.refl _,AV.le.eq (congrArg (fun z=>AV.d (.int .i64 z)) hwr),trivial⟩,HLe.refl _⟩
  ·refine ww ?_
   exact qAx rfl (.refl _) rfl rfl rfl rfl ⟨rfl,rfl⟩
def pG:Nat:=2147483579
def qKe:Nat→Nat→Nat→Nat→Nat
 | 0,x,k,out=>out
 | m+1,x,k,out=>if k=0 then out else qKe m (x*x % pG) (k / 2) (if k % 2=1 then out*x % pG else out)
theorem mulP_lt {a b:Nat} (ha:a < pG) (hb:b < pG):a*b≤4611686018427387904:=by
 have:=Nat.mul_le_mul (Nat.le_of_lt ha) (Nat.le_of_lt hb)
 exact Nat.le_trans this (by decide)
set_option maxHeartbeats 4000000 in
set_option maxRecDepth 100000 in
theorem qNt (x k m:Nat) (hx:x < pG) (hk:k≤9223372036854775807) (hm:k < 2 ^ m) :
  Spec Tryz.prog 115 [.I (x:Int),.I (k:Int)] [] (fun r h'=>r=.I (qKe m x k 1:Int)∧h'=[]):=by
 refine qAa hT Tryz.func115 rfl rfl rfl rfl ?_
 intro E hE
 generalize hfin:qKe m x k 1=fin
 refine ww ?_
 refine qAt (ι:=Nat×Nat×Nat×Nat) (fun y=>[(0,.I (y.1:Int)),(1,.I (y.2.1:Int)),(5,.I (y.2.2.1:Int))]) (fun _=>[])
  (fun y=>y.1 < pG∧y.2.1≤9223372036854775807∧y.2.2.1 < pG∧y.2.1 < 2 ^ y.2.2.2∧qKe y.2.2.2 y.1 y.2.1 y.2.2.1=fin) (fun y=>y.2.1) (x,k,1,m) ⟨hx,hk,show 1 < pG by decide,hm,hfin⟩ yf (HLe.refl _) ?_
 rintro ⟨x,k,out,m⟩ ⟨hx,hk,ho,hm,hg⟩
 simp only at hx hk ho hm hg ⊢
 refine ww ?_
 refine qAb rfl (fun h1=>?_) (fun h1=>?_)
 ·have h1':0 < k:=by simpa using h1
  obtain ⟨m,rfl⟩:∃ m',m=m'+1:=⟨m-1,by cases m with | zero=>simp at hm;omega | succ m=>simp⟩
  rw [qKe,if_neg (by omega)] at hg
  refine ww ?_
  have hxx:=mulP_lt hx hx
  have hox:=mulP_lt ho hx
  have hm1:IntKind.i64.wrap ((x:Int)*(x:Int))=((x*x:Nat):Int):=by rw [← Int.natCast_mul];exact qAf (by omega)
  have hm2:IntKind.i64.wrap ((out:Int)*(x:Int))=((out*x:Nat):Int):=by rw [← Int.natCast_mul];exact qAf (by omega)
  have ht1:Int.tmod (IntKind.i64.wrap ((x:Int)*(x:Int))) 2147483579=((x*x % pG:Nat):Int):=by rw [hm1];rfl
  have ht2:Int.tmod (IntKind.i64.wrap ((out:Int)*(x:Int))) 2147483579=((out*x % pG:Nat):Int):=by rw [hm2];rfl
  have htk:Int.tmod (k:Int) 2=((k % 2:Nat):Int):=rfl
  have hdk:Int.tdiv (k:Int) 2=((k / 2:Nat):Int):=rfl
  have hwd:IntKind.i64.wrap (Int.tdiv (k:Int) 2)=((k / 2:Nat):Int):=by rw [hdk];exact qAf (by omega)
  have hl1:x*x % pG < pG:=Nat.mod_lt _ (by decide)
  have hl2:out*x % pG < pG:=Nat.mod_lt _ (by decide)
  have hk2:k / 2 < 2 ^ m:=by rw [Nat.pow_succ] at hm;omega
  refine qAb rfl (fun h2=>?_) (fun h2=>?_)
  ·have h2':k % 2=1:=by rw [htk] at h2;simp at h2;omega
   rw [if_pos h2'] at hg
   refine ww ?_
   exact ⟨(x*x % pG,k / 2,out*x % pG,m),⟨hl1,by show k / 2≤_;omega,hl2,hk2,hg⟩,by show k / 2 < k;omega,⟨AV.le.eq (congrArg (fun z=>AV.d (.int .i64 z)) ht1),AV.le.eq (congrArg (fun z=>AV.d (.int .i64 z)) hwd),AV.le.eq (congrArg (fun z=>AV.d (.int .i64 z)) ht2),trivial⟩,HLe.refl _⟩
  ·have h2':¬ k % 2=1:=by rw [htk] at h2;simp at h2;omega
   rw [if_neg h2'] at hg
   refine ww ?_
   exact ⟨(x*x % pG,k / 2,out,m),⟨hl1,by show k / 2≤_;omega,ho,hk2,hg⟩,by show k / 2 < k;omega,⟨AV.le.eq (congrArg (fun z=>AV.d (.int .i64 z)) ht1),AV.le.eq (congrArg (fun z=>AV.d (.int .i64 z)) hwd),.refl _,trivial⟩,HLe.refl _⟩
 ·have h1':k=0:=by simp at h1;omega
  subst h1'
  have hg':out=fin:=by rw [← hg];cases m <;> simp [qKe]
  subst hg'
  refine ww ?_
  exact qAx rfl (.refl _) rfl rfl rfl rfl ⟨rfl,rfl⟩
set_option maxHeartbeats 4000000 in
set_option maxRecDepth 100000 in
theorem qPh:Spec Tryz.prog 213 [.d (.int .u64 1073741789)] [] (fun r h'=>r=.I 30∧h'=[]):=by
 refine qAa hT Tryz.func213 rfl rfl rfl rfl ?_
 intro E hE
 refine ww ?_
 refine qAb rfl (fun h1=>?_) (fun h1=>?_)
 ·exact absurd h1 (by decide)
 ·refine ww ?_
  refine qAb rfl (fun h2=>?_) (fun h2=>?_)
  ·refine ww ?_
   refine qAb rfl (fun h3=>?_) (fun h3=>?_)
   ·refine ww ?_
    refine qBa hT rfl rfl (by decide) ?_
    refine ww ?_
    exact qAx (r:=.I 30) rfl (AV.le.eq (by rfl)) rfl rfl rfl rfl ⟨rfl,rfl⟩
   ·exact absurd h3 (by decide)
  ·exact absurd h2 (by decide)
set_option maxHeartbeats 4000000 in
set_option maxRecDepth 100000 in
theorem qTi:Spec Tryz.prog 169 [.d (.int .u64 1073741789)] [] (fun r h'=>r=.I 30∧h'=[]):=by
 refine qAa hT Tryz.func169 rfl rfl rfl rfl ?_
 intro E hE
 refine ww ?_
 refine qAb rfl (fun h1=>?_) (fun h1=>?_)
 ·exact absurd h1 (by decide)
 ·refine ww ?_
  refine qAd (qEv rfl rfl qPh rfl rfl rfl) rfl ?_
  refine ww ?_
  exact qAx rfl (.refl _) rfl rfl rfl rfl ⟨rfl,rfl⟩
theorem qQu {x n:Int} (h:1≤n):(if x.tmod n < 0 then x.tmod n+n else x.tmod n)=x % n:=by
 have hb1:=Int.tmod_lt_of_pos x (b:=n) (by omega)
 have hb2:(-x).tmod n < n:=Int.tmod_lt_of_pos (-x) (b:=n) (by omega)
 rw [Int.neg_tmod] at hb2
 have h2:=Int.mul_tdiv_add_tmod x n
 have h3:x % n=(x.tmod n+n*x.tdiv n) % n:=by rw [Int.add_comm,h2]
 rw [h3,Int.add_mul_emod_self_left]
 split
 ·rw [← Int.add_emod_right,Int.emod_eq_of_lt (by omega) (by omega)]
 ·rw [Int.emod_eq_of_lt (by omega) (by omega)]
theorem qTh (x n:Int) (h1:1≤n) (hn:n≤4611686018427387904):Spec Tryz.prog 62 [.I x,.I n] [] (fun r h'=>r=.I (x % n)∧h'=[]):=by
 have hb1:=Int.tmod_lt_of_pos x (b:=n) (by omega)
 have hb2:(-x).tmod n < n:=Int.tmod_lt_of_pos (-x) (b:=n) (by omega)
 rw [Int.neg_tmod] at hb2
 have he:=qQu (x:=x) h1
 have hne:n≠0:=by omega
 refine qAa hT Tryz.func62 rfl rfl rfl rfl ?_;intro E hE
 refine ww ?_
 refine qAb rfl (fun h2=>?_) (fun h2=>?_)
 ·have h2':x.tmod n < 0:=by simpa using h2
  rw [if_pos h2'] at he
  refine ww ?_
  exact wwr
 ·have h2':¬ x.tmod n < 0:=by simpa using h2
  rw [if_neg h2'] at he
  refine ww ?_
  exact wwr
theorem qPg (l:List Int):Spec Tryz.prog 5 [.d (.sl 1 (qLy l))] [] (fun r h'=>r=.d (.bool (decide (l.length≤400)))∧h'=[]):=by
 have hl:=encI_length l
 generalize qLy l=es at hl
 refine qAa hT Tryz.func5 rfl rfl rfl rfl ?_;intro E hE
 refine ww ?_
 exact qEe ⟨rfl,rfl⟩ rfl (.bool (by rw [hl];exact decide_eq_decide.2 (by omega))) rfl rfl rfl rfl
def qAn (l:List Int) (a:Nat):List AV:=[.d (.sl 1 (qLy l)),.d (.int .i64 (a:Int))]
theorem qLm (l:List Int) (hl:l.length≤1000000):Spec Tryz.prog 7 [.d (.sl 1 (qLy l))] [.room] (fun r h'=>r=.ptr 0 0∧h'=[.row (qAn l 0)]):=by
 unfold qAn
 generalize qLy l=es
 refine qAa hT Tryz.func7 rfl rfl rfl rfl ?_;intro E hE
 refine qAl (qAg (qBa hT rfl rfl trivial (qCc ?_)))
 refine qAl (qAg (qBa hT rfl rfl trivial (qBa hT rfl rfl trivial ?_)))
 refine qAd (boxAt_ok (i0:=0) rfl rfl rfl) rfl ?_
 refine ww ?_
 exact wwr
theorem qPp (n:Nat):(List.replicate n [AV.d (.int .u8 0)]).flatten=qAr (List.replicate n 0):=by
 induction n with
 | zero=>rfl
 | succ n ih=>rw [List.replicate_succ,List.flatten_cons,ih];rfl
def qG:Nat:=1073741789
theorem qG_div:∀ {i:Nat},i < 30→qG / 2 ^ i≠0:=by
 have h:∀ i,i∈List.range 30→qG / 2 ^ i≠0:=by decide
 exact fun {i} hi=>h i (List.mem_range.2 hi)
theorem qOi (x:Nat) (hx:x < pG):Spec Tryz.prog 143 [.I (x:Int),.I 1073741789] [] (fun r h'=>r=.I (qKe 30 x qG 1:Int)∧h'=[]):=by
 have hlen:Spec Tryz.prog 169 [.d (.int .u64 (IntKind.u64.wrap 1073741789))] [] (fun r h'=>r=.I 30∧h'=[]):=by
  rw [show IntKind.u64.wrap 1073741789=1073741789 by decide];exact qTi
 generalize hfin:qKe 30 x qG 1=fin
 refine qAa hT Tryz.func143 rfl rfl rfl rfl ?_;intro E hE
 refine ww ?_
 refine wwc hlen ?_
 refine ww ?_
 refine qAt (ι:=Nat×Nat×Nat) (fun y=>[(0,.I (y.2.1:Int)),(1,.I 1073741789),(5,.I (y.2.2:Int)),(9,.I 30),(10,.I (y.1:Int))]) (fun _=>[])
  (fun y=>y.1≤30∧y.2.1 < pG∧y.2.2 < pG∧qKe (30-y.1) y.2.1 (qG / 2 ^ y.1) y.2.2=fin) (fun y=>30-y.1) (0,x,1) ⟨by omega,hx,show 1 < pG by decide,by simpa using hfin⟩ yf (HLe.refl _) ?_
 rintro ⟨i,x,out⟩ ⟨hi,hx,ho,hg⟩
 simp only at hi hx ho hg ⊢
 refine ww ?_
 refine qAb rfl (fun h1=>?_) (fun h1=>?_)
 ·have h1':i < 30:=by simp at h1;omega
  have hq:=qG_div h1'
  have hq2:qG / 2 ^ i < 9223372036854775808:=Nat.lt_of_le_of_lt (Nat.div_le_self _ _) (by decide)
  obtain ⟨m,hm⟩:∃ m,30-i=m+1:=⟨30-i-1,by omega⟩
  rw [hm,qKe,if_neg hq,Nat.div_div_eq_div_mul,← Nat.pow_succ] at hg
  have hm':m=30-(i+1):=by omega
  subst hm'
  have hsh:Int.fdiv 1073741789 (2 ^ (min ((i:Int)).toNat IntKind.i64.bits))=((qG / 2 ^ i:Nat):Int):=by
   rw [show min ((i:Int)).toNat IntKind.i64.bits=i by simp [IntKind.bits];omega]
   exact qHg qG i
  have hand:IntKind.i64.wrap ((BitVec.ofInt IntKind.i64.bits (Int.fdiv 1073741789 (2 ^ (min ((i:Int)).toNat IntKind.i64.bits))) &&& BitVec.ofInt IntKind.i64.bits 1).toNat:Int)=((qG / 2 ^ i % 2:Nat):Int):=by
   rw [hsh]
   have:=qUu (a:=qG / 2 ^ i) (b:=1) hq2 (by omega)
   rw [Nat.and_one_is_mod] at this
   exact this
  have hxx:=mulP_lt hx hx
  have hox:=mulP_lt ho hx
  have hm1:IntKind.i64.wrap ((x:Int)*(x:Int))=((x*x:Nat):Int):=by rw [← Int.natCast_mul];exact qAf (by omega)
  have hm2:IntKind.i64.wrap ((out:Int)*(x:Int))=((out*x:Nat):Int):=by rw [← Int.natCast_mul];exact qAf (by omega)
  have ht1:Int.tmod (IntKind.i64.wrap ((x:Int)*(x:Int))) 2147483579=((x*x % pG:Nat):Int):=by rw [hm1];rfl
  have ht2:Int.tmod (IntKind.i64.wrap ((out:Int)*(x:Int))) 2147483579=((out*x % pG:Nat):Int):=by rw [hm2];rfl
  have hwi:IntKind.i64.wrap ((i:Int)+1)=((i+1:Nat):Int):=by rw [qAf (by omega)];omega
  have hl1:x*x % pG < pG:=Nat.mod_lt _ (by decide)
  have hl2:out*x % pG < pG:=Nat.mod_lt _ (by decide)
  generalize qG / 2 ^ i % 2=bt at hand hg
  refine ww ?_
  refine qAb rfl (fun h2=>?_) (fun h2=>?_)
  ·have h2':bt=1:=by rw [hand] at h2;simp at h2;omega
   rw [if_pos h2'] at hg
   refine ww ?_
   exact ⟨(i+1,x*x % pG,out*x % pG),⟨h1',hl1,hl2,hg⟩,by simp only;omega,⟨.int ht1,.refl _,.int ht2,.refl _,.int hwi,trivial⟩,HLe.refl _⟩
  ·have h2':¬ bt=1:=by rw [hand] at h2;simp at h2;omega
   rw [if_neg h2'] at hg
   refine ww ?_
   exact ⟨(i+1,x*x % pG,out),⟨h1',hl1,ho,hg⟩,by simp only;omega,⟨.int ht1,.refl _,.refl _,.refl _,.int hwi,trivial⟩,HLe.refl _⟩
 ·have h1':i=30:=by simp at h1;omega
  subst h1'
  have hg':out=fin:=by rw [← hg];rfl
  subst hg'
  refine ww ?_
  exact wwr
def qEt (x:Int):Bool:=decide (0 < x∧x < 2147483579)
def qCp (x:Int):Bool:=qEt x&&decide (x≠1)&&decide (qKe 30 x.toNat qG 1=1)
theorem qKp (x:Int):Spec Tryz.prog 142 [.I x] [] (fun r h'=>r=.d (.bool (qEt x))∧h'=[]):=by
 refine qAa hT Tryz.func142 rfl rfl rfl rfl ?_;intro E hE
 refine ww ?_
 exact qEe ⟨rfl,rfl⟩ rfl (.bool (by unfold qEt;rw [Bool.decide_and])) rfl rfl rfl rfl
theorem residueR_spec (x:Int):Spec Tryz.prog 127 [.I x] [] (fun r h'=>r=.d (.bool (qEt x))∧h'=[]):=by
 refine qAa hT Tryz.func127 rfl rfl rfl rfl ?_;intro E hE
 refine ww ?_
 exact qEe ⟨rfl,rfl⟩ rfl (.bool (by unfold qEt;rw [Bool.decide_and];congr 1)) rfl rfl rfl rfl
theorem qTp (x y:Int):(x != y)=decide (x≠y):=by rw [Bool.eq_iff_iff];simp
theorem qQt (n:Nat):((n:Int) == 1)=decide (n=1):=by rw [Bool.eq_iff_iff];simp;omega
theorem qDc (x:Int):Spec Tryz.prog 110 [.I x] [] (fun r h'=>r=.d (.bool (qCp x))∧h'=[]):=by
 have hres:=qKp x
 have hp:qEt x=true→Spec Tryz.prog 143 [.I x,.I 1073741789] [] (fun r h'=>r=.I (qKe 30 x.toNat qG 1:Int)∧h'=[]):=fun hr=>by
  have hr:0 < x∧x < 2147483579:=of_decide_eq_true hr
  have hp:=qOi x.toNat (by unfold pG;omega)
  rw [Int.toNat_of_nonneg (by omega)] at hp
  exact hp
 unfold qCp
 generalize qKe 30 x.toNat qG 1=pw at hp
 generalize qEt x=c at hp hres
 refine qAa hT Tryz.func110 rfl rfl rfl rfl ?_;intro E hE
 refine ww ?_
 refine wwc hres ?_
 refine ww ?_
 refine qFu (v:=.I (pw:Int)) rfl rfl rfl (fun hg=>⟨by first | exact True.intro | exact ⟨hg,True.intro⟩ | exact ⟨hg,hg,True.intro⟩,qEv rfl rfl (hp (by simp [gval] at hg;exact hg.1)) rfl rfl rfl⟩) ?_
 refine ww ?_
 exact qEe ⟨rfl,rfl⟩ rfl (.bool (by rw [qTp,qQt])) rfl rfl rfl rfl
theorem qFn (x:Int):Spec Tryz.prog 94 [.I x] [] (fun r h'=>r=.d (.bool (qCp x))∧h'=[]):=by
 have hres:=residueR_spec x
 have hp:qEt x=true→Spec Tryz.prog 115 [.I x,.I 1073741789] [] (fun r h'=>r=.I (qKe 30 x.toNat qG 1:Int)∧h'=[]):=fun hr=>by
  have hr:0 < x∧x < 2147483579:=of_decide_eq_true hr
  have hp:=qNt x.toNat qG 30 (by unfold pG;omega) (by decide) (by decide)
  rw [Int.toNat_of_nonneg (by omega)] at hp
  exact hp
 unfold qCp
 generalize qKe 30 x.toNat qG 1=pw at hp
 generalize qEt x=c at hp hres
 refine qAa hT Tryz.func94 rfl rfl rfl rfl ?_;intro E hE
 refine ww ?_
 refine wwc hres ?_
 refine ww ?_
 refine qFu (v:=.I (pw:Int)) rfl rfl rfl (fun hg=>⟨by first | exact True.intro | exact ⟨hg,True.intro⟩ | exact ⟨hg,hg,True.intro⟩,qEv rfl rfl (hp (by simp [gval] at hg;exact hg.1)) rfl rfl rfl⟩) ?_
 refine ww ?_
 exact qEe ⟨rfl,rfl⟩ rfl (.bool (by rw [qTp,qQt])) rfl rfl rfl rfl
theorem elemG_range {x:Int} (h:qCp x=true):0 < x∧x < 2147483579:=by
 unfold qCp qEt at h
 simp only [Bool.and_eq_true] at h
 exact of_decide_eq_true h.1.1
def qBk:Nat→Nat→List UInt8
 | 0,_=>[]
 | m+1,n=>qBk m (n / 256)++[UInt8.ofNat (n % 256)]
theorem octB_length:∀ (m n:Nat),(qBk m n).length=m
 | 0,_=>rfl
 | m+1,n=>by simp [qBk,octB_length m]
theorem octB_succ:∀ (m n:Nat),qBk (m+1) n=UInt8.ofNat (n / 256 ^ m % 256)::qBk m n
 | 0,n=>by simp [qBk]
 | m+1,n=>by
  have ih:=octB_succ m (n / 256)
  rw [qBk,ih,qBk,Nat.div_div_eq_div_mul,Nat.pow_succ,Nat.mul_comm (256 ^ m)]
  rfl
theorem qJe {α:Type} (z b:α) (l:List α):∀ (k:Nat),(List.replicate (k+1) z++l).set k b=List.replicate k z++b::l
 | 0=>rfl
 | k+1=>by
  have:=qJe z b l k
  rw [List.replicate_succ,List.cons_append,List.set_cons_succ,this,← List.cons_append,← List.replicate_succ]
theorem qDu (n m:Nat) (hm:m≤7) (hn:n < 256 ^ m):Spec Tryz.prog 111 [.I (n:Int),.I (m:Int)] [] (fun r h'=>r=.tup [.d (.sl 1 (qAe (qBk m n))),.I 0]∧h'=[]):=by
 have hn8:n < 2 ^ (8*m):=by rw [show (256:Nat)=2 ^ 8 by rfl,← Nat.pow_mul] at hn;exact hn
 have hn2:n < 72057594037927936:=Nat.lt_of_lt_of_le hn (Nat.le_trans (Nat.pow_le_pow_right (by omega) hm) (by decide))
 have hw8:IntKind.i64.wrap (8*(m:Int))=((8*m:Nat):Int):=by rw [qAf (by omega)];omega
 have hz:Int.fdiv (n:Int) (2 ^ (min (IntKind.i64.wrap (8*(m:Int))).toNat IntKind.i64.bits))=0:=by
  rw [hw8,show min (((8*m:Nat):Int)).toNat IntKind.i64.bits=8*m by simp [IntKind.bits];omega,qHg,Nat.div_eq_of_lt hn8];rfl
 refine qAa hT Tryz.func111 rfl rfl rfl rfl ?_;intro E hE
 refine ww ?_
 refine qAb rfl (fun h1=>?_) (fun h1=>?_)
 ·exact absurd h1 (by simp;omega)
 refine ww ?_
 refine qAb rfl (fun h2=>?_) (fun h2=>?_)
 ·refine absurd h2 ?_
  rw [hz];simp
 refine ww ?_
 refine qAd (makeRow_ok (n:=m) hT rfl rfl rfl rfl (by show 1*m≤_;omega) (by omega)) rfl ?_
 rw [qPp]
 refine ww ?_
 refine qAt (ι:=Nat) (fun i=>[(0,.I (n:Int)),(1,.I (m:Int)),(6,.row 0 0 m m),(25,.I (m:Int)),(26,.I (i:Int))]) (fun i=>[.row (qAr (List.replicate (m-i) 0++qBk i n))])
  (fun i=>i≤m) (fun i=>m-i) 0 (by omega) yf ⟨by simp [qBk];exact ObLe.refl _,trivial⟩ ?_
 intro i hi
 refine ww ?_
 refine qAb rfl (fun h3=>?_) (fun h3=>?_)
 ·have h3':i < m:=by simp at h3;omega
  have hwi:IntKind.i64.wrap ((i:Int)+1)=((i+1:Nat):Int):=by rw [qAf (by omega)];omega
  have hix:IntKind.i64.wrap (IntKind.i64.wrap ((m:Int)-1)-(i:Int))=((m-1-i:Nat):Int):=by rw [qAf (n:=(m:Int)-1) (by omega),qAf (by omega)];omega
  have hwb:IntKind.i64.wrap (8*(i:Int))=((8*i:Nat):Int):=by rw [qAf (by omega)];omega
  have hby:IntKind.u8.wrap (Int.fdiv (n:Int) (2 ^ (min (IntKind.i64.wrap (8*(i:Int))).toNat IntKind.i64.bits)))=((UInt8.ofNat (n / 256 ^ i % 256)).toNat:Int):=by
   rw [hwb,show min (((8*i:Nat):Int)).toNat IntKind.i64.bits=8*i by simp [IntKind.bits];omega,qHg,qDf,toNat_ofNat (Nat.mod_lt _ (by omega)),Nat.pow_mul];simp
  have hrow:(qAr (List.replicate (m-i) 0++qBk i n)).set (m-1-i) (AV.d (.int .u8 (IntKind.u8.wrap (Int.fdiv (n:Int) (2 ^ (min (IntKind.i64.wrap (8*(i:Int))).toNat IntKind.i64.bits))))))=qAr (List.replicate (m-(i+1)) 0++qBk (i+1) n):=by
   rw [hby,octB_succ,show m-i=(m-(i+1))+1 by omega,show m-1-i=m-(i+1) by omega]
   have:=qJe (0:UInt8) (UInt8.ofNat (n / 256 ^ i % 256)) (qBk i n) (m-(i+1))
   rw [← this]
   simp [qAr,List.map_set]
  have hlen:(qAr (List.replicate (m-i) 0++qBk i n)).length=m:=by rw [byteAV_length];simp [octB_length];omega
  generalize qAr (List.replicate (m-i) 0++qBk i n)=row at hrow hlen
  refine ww ?_
  refine qAd (qAc (rowAddr_ok (sz:=1) hT rfl rfl rfl rfl (by rw [hix];omega))) rfl ?_
  refine qBp (qDg hT rfl rfl rfl rfl rfl rfl (by rw [hix,hlen];simp;omega)) rfl ?_
  refine ww ?_
  refine ⟨i+1,by omega,by omega,⟨.refl _,.refl _,.refl _,.refl _,.int hwi,trivial⟩,⟨?_,trivial⟩⟩
  rw [← hrow]
  exact ObLe.row (by rw [hix,show 0+(((m-1-i:Nat):Int)).toNat*1=m-1-i by simp];rfl)
 ·have h3':i=m:=by simp at h3;omega
  subst h3'
  rw [Nat.sub_self,List.replicate_zero,List.nil_append]
  refine wwe ?_
  refine qEk 6 0 1 (qAe (qBk i n)) rfl rfl (by rw [encB_length,octB_length]) (Nat.le_refl _) (qDa _) ?_
  refine ww ?_
  exact wwr
theorem qLs (x:Int):Spec Tryz.prog 66 [.I x] [] (fun r h'=>r=.tup [.d (.sl 1 (qAe (if qCp x=true then qBk 4 x.toNat else []))),.I (if qCp x=true then 0 else 10)]∧h'=[]):=by
 have hel:=qDc x
 have hoc:qCp x=true→Spec Tryz.prog 111 [.I x,.I 4] [] (fun r h'=>r=.tup [.d (.sl 1 (qAe (qBk 4 x.toNat))),.I 0]∧h'=[]):=fun h=>by
  have hr:=elemG_range h
  have:=qDu x.toNat 4 (by omega) (by omega)
  rw [Int.toNat_of_nonneg (by omega)] at this
  exact this
 generalize qBk 4 x.toNat=bs at hoc
 generalize qCp x=c at hel hoc
 refine qAa hT Tryz.func66 rfl rfl rfl rfl ?_;intro E hE
 refine ww ?_
 refine wwc hel ?_
 refine ww ?_
 refine qAb rfl (fun h1=>?_) (fun h1=>?_)
 ·obtain rfl:c=false:=by simpa using h1
  refine ww ?_
  exact wwr
 ·obtain rfl:c=true:=by simpa using h1
  have hoc:=hoc rfl
  refine ww ?_
  refine wwc hoc ?_
  refine ww ?_
  exact wwr
theorem qHr (n k:Nat) (h:n < 9223372036854775808):IntKind.u8.wrap (Int.fdiv (n:Int) (2 ^ (min ((k:Int)).toNat IntKind.i64.bits)))=((UInt8.ofNat (n / 2 ^ (min k 64) % 256)).toNat:Int):=by
 rw [show min ((k:Int)).toNat IntKind.i64.bits=min k 64 by simp [IntKind.bits],qHg,qDf,toNat_ofNat (Nat.mod_lt _ (by omega))];simp
theorem qRr (n:Nat) (hn:n < 9223372036854775808):Spec Tryz.prog 109 [.I (n:Int)] [] (fun r h'=>r=.d (.sl 1 (qAe (qBk 4 n)))∧h'=[]):=by
 have h0:IntKind.u8.wrap (n:Int)=((UInt8.ofNat (n % 256)).toNat:Int):=by rw [qDf,toNat_ofNat (Nat.mod_lt _ (by omega))];simp
 have h1:=qHr n 8 hn
 have h2:=qHr n 16 hn
 have h3:=qHr n 24 hn
 have ho:qBk 4 n=[UInt8.ofNat (n / 2 ^ 24 % 256),UInt8.ofNat (n / 2 ^ 16 % 256),UInt8.ofNat (n / 2 ^ 8 % 256),UInt8.ofNat (n % 256)]:=by
  simp only [qBk,Nat.div_div_eq_div_mul];rfl
 refine qAa hT Tryz.func109 rfl rfl rfl rfl ?_;intro E hE
 refine ww ?_
 exact qEe ⟨rfl,rfl⟩ rfl (.dat' (by rw [ho];show [[Dat.int .u8 _],[Dat.int .u8 _],[Dat.int .u8 _],[Dat.int .u8 _]]=_;exact congr (congrArg _ (congrArg (fun z=>[Dat.int .u8 z]) h3)) (congr (congrArg _ (congrArg (fun z=>[Dat.int .u8 z]) h2)) (congr (congrArg _ (congrArg (fun z=>[Dat.int .u8 z]) h1)) (congr (congrArg _ (congrArg (fun z=>[Dat.int .u8 z]) h0)) rfl))))) rfl rfl rfl rfl
theorem qLo (x:Int):Spec Tryz.prog 64 [.I x] [] (fun r h'=>r=.tup [.d (.sl 1 (qAe (if qCp x=true then qBk 4 x.toNat else []))),.I (if qCp x=true then 0 else 10)]∧h'=[]):=by
 have hel:=qFn x
 have hoc:qCp x=true→Spec Tryz.prog 109 [.I x] [] (fun r h'=>r=.d (.sl 1 (qAe (qBk 4 x.toNat)))∧h'=[]):=fun h=>by
  have hr:=elemG_range h
  have:=qRr x.toNat (by omega)
  rw [Int.toNat_of_nonneg (by omega)] at this
  exact this
 generalize qBk 4 x.toNat=bs at hoc
 generalize qCp x=c at hel hoc
 refine qAa hT Tryz.func64 rfl rfl rfl rfl ?_;intro E hE
 refine ww ?_
 refine wwc hel ?_
 refine ww ?_
 refine qAb rfl (fun h1=>?_) (fun h1=>?_)
 ·obtain rfl:c=false:=by simpa using h1
  refine ww ?_
  exact wwr
 ·obtain rfl:c=true:=by simpa using h1
  have hoc:=hoc rfl
  refine ww ?_
  refine wwc hoc ?_
  refine ww ?_
  exact wwr
def bOf (n:Int):UInt8:=UInt8.ofNat (n % 256).toNat
theorem bOf_wrap (n:Int):IntKind.u8.wrap n=((bOf n).toNat:Int):=by
 rw [qDf];unfold bOf;rw [toNat_ofNat (by omega)];omega
theorem qNd (n:Int):Int.fdiv n (2 ^ (min (8:Int).toNat IntKind.i64.bits))=n / 256:=by
 rw [show (2 ^ (min (8:Int).toNat IntKind.i64.bits):Int)=256 from rfl,Int.fdiv_eq_ediv_of_nonneg _ (by omega)]
structure Inf where
 proto:Int
 ver:Int
 par:Int
 key:Int
 kid:Int
def qWa (x:Inf):List Dat:=[.int .i64 x.proto,.int .i64 x.ver,.int .i64 x.par,.int .i64 x.key,.int .i64 x.kid]
def qEr (l:List Inf):List (List Dat):=l.map qWa
theorem encFs_length (l:List Inf):(qEr l).length=l.length:=by simp [qEr]
theorem encFs_at {l:List Inf} {i:Nat} (h:i < l.length):(qEr l)[((i:Int)).toNat]?=some (qWa l[i]):=by simp [qEr,h]
def qQs (x:Inf):List AV:=[.d (.int .i64 x.proto),.d (.int .i64 x.ver),.d (.int .i64 x.par),.d (.int .i64 x.key),.d (.int .i64 x.kid)]
def qWg (p:Int):Int:=if p=2∨p=3 then 31 else 0
def qWj (p:Int):Int:=if p=4 then 255 else 0
def infE (x:Inf):Int :=
 if x.proto < 2∨x.proto > 6 then 14
 else if x.ver < 1∨x.ver > 255∨x.par < 0∨x.par > qWg x.proto∨x.kid < 0∨x.kid > qWj x.proto then 3
 else if (x.proto=4∧qCp x.key=false)∨(x.proto≠4∧x.key≠0) then 10 else 0
def qVg (p x:Inf):Bool:=decide (x.proto < p.proto∨(x.proto=p.proto∧x.kid≤p.kid))
def qTt:Option Inf→List Inf→Int
 | _,[]=>0
 | p,x::l=>if infE x≠0 then infE x else if (match p with | none=>false | some p=>qVg p x)=true then 17 else qTt (some x) l
theorem infL_nil (p:Option Inf):qTt p []=0:=by cases p <;> rfl
theorem infL_cons (p:Option Inf) (x:Inf) (l:List Inf):qTt p (x::l)=if infE x≠0 then infE x else if (match p with | none=>false | some p=>qVg p x)=true then 17 else qTt (some x) l:=by cases p <;> rfl
def validI (l:List Inf):Int:=if l.length > 16 then 2 else qTt none l
def nxV (L:List Int) (a:Nat) (n:Int):Int:=match L[a]? with
 | none=>0
 | some x=>x % n
def nxA (L:List Int) (a:Nat):Nat:=if a < L.length then a+1 else a
theorem nxA_le {L:List Int} {a:Nat} (h:a≤L.length):nxA L a≤L.length:=by unfold nxA;split <;> omega
theorem nxV_range {L:List Int} {a:Nat} {n:Int} (h:1≤n):0≤nxV L a n∧nxV L a n < n:=by
 unfold nxV
 split
 ·omega
 ·exact ⟨Int.emod_nonneg _ (by omega),Int.emod_lt_of_pos _ (by omega)⟩
theorem qAq (l:List Int) (hl:l.length≤1000000) (a:Nat) (ha:a≤l.length) (n:Int) (h1:1≤n) (hn:n≤4611686018427387904) :
  Spec Tryz.prog 30 [.ptr 0 0,.I n] [.row (qAn l a)] (fun r h'=>r=.I (nxV l a n)∧h'=[.row (qAn l (nxA l a))]):=by
 have hll:=encI_length l
 unfold qAn
 refine qAa hT Tryz.func30 rfl rfl rfl rfl ?_;intro E hE
 refine ww ?_
 refine qAb rfl (fun h2=>?_) (fun h2=>?_)
 ·have h2':¬ a < l.length:=by rw [hll] at h2;simp at h2;omega
  have hv:nxV l a n=0:=by unfold nxV;rw [List.getElem?_eq_none (by omega)]
  have hv2:nxA l a=a:=by unfold nxA;rw [if_neg h2']
  rw [hv,hv2]
  refine ww ?_
  exact wwr
 ·have h2':a < l.length:=by rw [hll] at h2;simp at h2;omega
  have hw1:IntKind.i64.wrap ((a:Int)+1)=((a+1:Nat):Int):=by rw [qAf (by omega)];simp
  have hw2:IntKind.i64.wrap (((a+1:Nat):Int)-1)=(a:Int):=by rw [qAf (by omega)];omega
  have h0:0≤IntKind.i64.wrap (IntKind.i64.wrap ((a:Int)+1)-1):=by rw [hw1,hw2];omega
  have hel:(qLy l)[(IntKind.i64.wrap (IntKind.i64.wrap ((a:Int)+1)-1)).toNat]?=some [.int .i64 l[a]]:=by rw [hw1,hw2];simp [qLy,h2']
  have hm:=qTh l[a] n h1 hn
  have hv:nxV l a n=l[a] % n:=by unfold nxV;rw [List.getElem?_eq_getElem h2']
  have hv2:nxA l a=a+1:=by unfold nxA;rw [if_pos h2']
  rw [hv,hv2]
  generalize l[a]=x at hel hm
  refine ww ?_
  refine qAz (qAc (indexAddr_ok hT rfl rfl rfl rfl h0 hel)) rfl rfl ?_
  refine ww ?_
  refine wwc hm ?_
  refine ww ?_
  refine qEe ⟨rfl,rfl⟩ rfl (.refl _) ?_ rfl rfl rfl
  rw [hw1];rfl
end Tdoc
namespace Tdoc
open Go
theorem powX_eq:∀ (m x k out:Nat),k < 2 ^ m→out < pG→qKe m x k out=out*x ^ k % pG
 | 0,x,k,out,hk,ho=>by
  have:k=0:=by simpa using hk
  subst this
  rw [qKe,Nat.pow_zero,Nat.mul_one,Nat.mod_eq_of_lt ho]
 | m+1,x,k,out,hk,ho=>by
  rw [qKe]
  by_cases h0:k=0
  ·subst h0;rw [if_pos rfl,Nat.pow_zero,Nat.mul_one,Nat.mod_eq_of_lt ho]
  ·rw [if_neg h0]
   have hk2:k / 2 < 2 ^ m:=by rw [Nat.pow_succ] at hk;omega
   have hpg:0 < pG:=by decide
   have hsq:(x*x % pG) ^ (k / 2) % pG=x ^ (2*(k / 2)) % pG:=by rw [← Nat.pow_mod,Nat.pow_mul,Nat.pow_two]
   by_cases h1:k % 2=1
   ·rw [if_pos h1,powX_eq m _ _ _ hk2 (Nat.mod_lt _ hpg),Nat.mul_mod,Nat.mod_mod,hsq,← Nat.mul_mod]
    have e:k=2*(k / 2)+1:=by omega
    conv=>rhs;rw [e,Nat.pow_succ]
    rw [Nat.mul_assoc,Nat.mul_comm x,← Nat.mul_assoc,Nat.mul_assoc out,← Nat.mul_assoc]
   ·rw [if_neg h1,powX_eq m _ _ _ hk2 ho,Nat.mul_mod,hsq,← Nat.mul_mod]
    have e:k=2*(k / 2):=by omega
    conv=>rhs;rw [e]
def nbV (v:List UInt8):Nat:=v.foldl (fun n c=>256*n+c.toNat) 0
def qCj (seed:List UInt8) (n:Nat):List UInt8:=(((List.range ((n+31) / 32)).map fun i=>qOd (seed++1::qBk 4 i)).flatten).take n
def qEp (seed:List UInt8):List UInt8:=qOd (seed++[0])
def pubS (k:Nat):Nat:=4 ^ k % pG
def encNs' (l:List Nat):List (List Dat):=l.map fun (n:Nat)=>[Dat.int .i64 (n:Int)]
open Go Go.Proofs
end Tdoc
namespace Tdoc
open Go
structure Fil where
 id:Int
 sho:Int
 con:List UInt8
 lev:Int
 rgt:Int
def qFm (f:Fil):List Dat:=[.int .i64 f.id,.int .i64 f.sho,.sl 1 (qAe f.con),.int .i64 f.lev,.int .i64 f.rgt]
def qAi (l:List Fil):List (List Dat):=l.map qFm
theorem encFils_length (l:List Fil):(qAi l).length=l.length:=by simp [qAi]
theorem encFils_at {l:List Fil} {i:Nat} (h:i < l.length):(qAi l)[i]?=some (qFm l[i]):=by simp [qAi,h]
def qOv (f:Fil):AV:=.agg [.d (.int .i64 f.id),.d (.int .i64 f.sho),.d (.sl 1 (qAe f.con)),.d (.int .i64 f.lev),.d (.int .i64 f.rgt)]
def qHh (f g:Fil):Bool:=g.id == f.id||(g.sho == f.sho&&f.sho != 0)
def qOq:List Fil→List Fil→Int
 | _,[]=>0
 | pre,f::l=>if f.id < 1∨f.id > 65535∨f.sho < 0∨f.sho > 30 then 3 else if f.lev < 0∨f.lev > 4∨f.rgt < 0∨f.rgt > (if f.lev=3 then 15 else 0) then 3
  else if f.con.length > 4096 then 2 else if pre.any (qHh f)=true then 15 else qOq (pre++[f]) l
def qGj (l:List Fil):Int:=if l.length > 24 then 2 else qOq [] l
structure Apk where
 name:List UInt8
 files:List Fil
def qGh (a:Apk):List Dat:=[.sl 1 (qAe a.name),.sl 5 (qAi a.files)]
def qAp (l:List Apk):List (List Dat):=l.map qGh
theorem encApks_length (l:List Apk):(qAp l).length=l.length:=by simp [qAp]
theorem encApks_at {l:List Apk} {i:Nat} (h:i < l.length):(qAp l)[i]?=some (qGh l[i]):=by simp [qAp,h]
def qPc (a:Apk):AV:=.agg [.d (.sl 1 (qAe a.name)),.d (.sl 5 (qAi a.files))]
def qOr:List Apk→List Apk→Int
 | _,[]=>0
 | pre,a::l=>if a.name.length < 1∨a.name.length > 16 then 2 else if pre.any (fun b=>a.name == b.name)=true then 15 else if qGj a.files≠0 then qGj a.files else qOr (pre++[a]) l
def qHc (root:List Fil) (apps:List Apk):Int:=if apps.length > 4 then 2 else if qGj root≠0 then qGj root else qOr [] apps
structure Tp where
 holder:List UInt8
 key:Int
 rights:Int
 frm:Int
 til:Int
def qCr (p:Tp):List Dat:=[.str p.holder,.int .i64 p.key,.int .i64 p.rights,.int .i64 p.frm,.int .i64 p.til]
def qAm (l:List Tp):List (List Dat):=l.map qCr
theorem encTps_length (l:List Tp):(qAm l).length=l.length:=by simp [qAm]
theorem encTps_at {l:List Tp} {i:Nat} (h:i < l.length):(qAm l)[i]?=some (qCr l[i]):=by simp [qAm,h]
def qVl (p:Tp):AV:=.agg [.d (.str p.holder),.d (.int .i64 p.key),.d (.int .i64 p.rights),.d (.int .i64 p.frm),.d (.int .i64 p.til)]
def qCw (c:UInt8):Bool:=decide ((65≤bI c∧bI c≤90)∨(48≤bI c∧bI c≤57))
def qCa (s:List UInt8):Bool:=decide (1≤s.length∧s.length≤16)&&qSq (s.getD 0 0)&&s.all qCw
def qBx (p:Tp):Int:=if qCa p.holder=false then 60 else if qCp p.key=false then 10 else if p.rights < 0∨p.rights > 65535 then 62 else if p.frm < 0∨p.frm > p.til∨p.til > 73048 then 8 else 0
def qIi:List Tp→Int
 | []=>0
 | p::l=>if qBx p≠0 then qBx p else qIi l
def qIo:List Tp→List Tp→Bool
 | _,[]=>false
 | pre,p::l=>(pre.any fun q=>q.holder == p.holder)||qIo (pre++[p]) l
def qBc (l:List Tp) (day:Int):Int:=if l.length < 1∨l.length > 2 then 72 else if qIi l≠0 then qIi l else if qIo [] l=true then 15 else if day < 0∨day > 73048 then 8 else 0
def qCe (n:Int):List UInt8:=[bOf (n / 65536),bOf (n / 256),bOf n]
def tpB (p:Tp):List UInt8:=bOf p.holder.length::(p.holder++qBk 4 p.key.toNat++[bOf (p.rights / 256),bOf p.rights]++qCe p.frm++qCe p.til)
def qBd (l:List Tp) (day:Int):List UInt8:=qCe day++[bOf l.length]++(l.map tpB).flatten
def qBg (l:List Tp) (day:Int):List UInt8×Int:=if qBc l day≠0 then ([],qBc l day) else (qBd l day,0)
def qIg (pr ur:Int) (pin:List UInt8) (l:List Tp) (day:Int):List UInt8×Int :=
 if pr < 0∨pr > 15∨ur < 0∨ur > 15 then ([],3) else if pin.length > 16 then ([],2) else if (qBg l day).2≠0 then ([],(qBg l day).2)
 else ([bOf pr,bOf ur,bOf pin.length]++pin++(qBg l day).1,0)
def qCo (n:Nat) (r:List UInt8):List UInt8:=1::(qBk 6 n++qBk 2 r.length++r++List.replicate (256-r.length) 0)
structure Per where
 root:List Fil
 apps:List Apk
 zone:List UInt8
 number:List UInt8
 pin:List UInt8
 puk:List UInt8
 pr:Int
 ur:Int
 basic:Bool
 infos:List Inf
 ck:Int
 ak:Int
 tps:List Tp
 tday:Int
 ident:List UInt8
 seed:List UInt8
def qCy (p:Per):List AV:=[.d (.sl 5 (qAi p.root)),.d (.sl 2 (qAp p.apps)),.d (.str p.zone),.d (.sl 1 (qAe p.number)),.d (.sl 1 (qAe p.pin)),.d (.sl 1 (qAe p.puk)),.d (.int .i64 p.pr),.d (.int .i64 p.ur),.d (.bool p.basic),.d (.sl 5 (qEr p.infos)),
 .I p.ck,.I p.ak,.d (.sl 5 (qAm p.tps)),.I p.tday,.d (.sl 1 (qAe p.ident)),.d (.sl 1 (qAe p.seed))]
def qIm (p:Per):AV:=.agg (qCy p)
def qMm (k:Int):Bool:=decide (0≤k∧k < 1073741789)
def qFf (p:Per):Int :=
 if qHc p.root p.apps≠0 then qHc p.root p.apps
 else if p.zone.length > 64∨p.number.length > 16∨p.pin.length > 16∨p.puk.length > 16 then 2
 else if p.pr < 1∨p.pr > 15∨p.ur < 1∨p.ur > 15 then 3
 else if validI p.infos≠0 then validI p.infos
 else if qMm p.ck=false∨qMm p.ak=false then 3
 else if qBc p.tps p.tday≠0 then qBc p.tps p.tday
 else if p.ident.length < 1∨p.ident.length > 32∨p.seed.length > 64 then 2 else 0
open Go Go.Proofs
theorem wrapu64 {n:Int} (h:0≤n∧n < 18446744073709551616):IntKind.u64.wrap n=n:=by
 simp only [IntKind.wrap,IntKind.signed,IntKind.bits]
 simp
 omega
end Tdoc
namespace Tdoc
open Go
def qJo (l:List (List UInt8)):List (List Dat):=l.map fun b=>[.sl 1 (qAe b)]
theorem encBs_length (l:List (List UInt8)):(qJo l).length=l.length:=by simp [qJo]
theorem encBs_at {l:List (List UInt8)} {i:Nat} (h:i < l.length):(qJo l)[i]?=some [.sl 1 (qAe (l.getD i []))]:=by
 unfold qJo
 rw [List.getElem?_map,List.getElem?_eq_getElem h]
 simp [h]
def qGo (l:List (List UInt8)) (i:Nat):List UInt8:=(l.take i).flatten
theorem flatN_succ {l:List (List UInt8)} {i:Nat} (h:i < l.length):qGo l (i+1)=qGo l i++l.getD i []:=by
 unfold qGo
 rw [List.take_add_one,List.flatten_append,List.getElem?_eq_getElem h]
 simp [h]
theorem flatN_all (l:List (List UInt8)):qGo l l.length=l.flatten:=by unfold qGo;rw [List.take_length]
theorem flatN_le (l:List (List UInt8)):∀ (i:Nat),i≤l.length→(qGo l i).length≤l.flatten.length:=by
 intro i hi
 have h:l.flatten=qGo l i++(l.drop i).flatten:=by unfold qGo;rw [← List.flatten_append,List.take_append_drop]
 rw [h,List.length_append];omega
def qHv (seed:List UInt8) (i:Nat):List UInt8:=((List.range i).map fun i=>qOd (seed++1::qBk 4 i)).flatten
theorem drawN_succ (seed:List UInt8) (i:Nat):qHv seed (i+1)=qHv seed i++qOd (seed++1::qBk 4 i):=by
 unfold qHv
 rw [List.range_succ,List.map_append,List.flatten_append]
 simp
theorem drawN_length (seed:List UInt8):∀ i,(qHv seed i).length=32*i
 | 0=>rfl
 | i+1=>by rw [drawN_succ,List.length_append,drawN_length seed i,sumW_length];omega
theorem drawS_eq (seed:List UInt8) (n i:Nat) (h1:n≤32*i) (h2:32*i < n+32):qCj seed n=(qHv seed i).take n:=by
 have:(n+31) / 32=i:=by omega
 unfold qCj
 rw [this];rfl
open Go Go.Proofs
theorem wshl (x:BitVec 32) (m:Int):IntKind.u32.wrap (wI x*2 ^ (min m.toNat IntKind.u32.bits))=wI (x <<< (min m.toNat 32)):=wI_shl x _
theorem wshr (x:BitVec 32) (m:Int):Int.fdiv (wI x) (2 ^ (min m.toNat IntKind.u32.bits))=wI (x >>> (min m.toNat 32)):=wI_shr x _
theorem qTz {n:Nat} (h:1≤n∧n≤31):IntKind.u64.wrap ((BitVec.ofInt IntKind.u64.bits (IntKind.u64.wrap (-(n:Int))) &&& BitVec.ofInt IntKind.u64.bits 31).toNat:Int)=((32-n:Nat):Int):=by
 have hc:∀ n,n∈List.range 32→1≤n→IntKind.u64.wrap ((BitVec.ofInt IntKind.u64.bits (IntKind.u64.wrap (-((n:Nat):Int))) &&& BitVec.ofInt IntKind.u64.bits 31).toNat:Int)=((32-n:Nat):Int):=by decide
 exact hc n (List.mem_range.2 (by omega)) h.1
theorem qRi (x:BitVec 32) (n:Nat) (h:1≤n∧n≤31):Spec Tryz.prog 313 [uV x,.I (-(n:Int))] [] (fun r h'=>r=uV (qFh x n)∧h'=[]):=by
 have hr:=qTz h
 refine qAa hT Tryz.func313 rfl rfl rfl rfl ?_;intro E hE
 refine qAl (qAg ?_)
 refine wws ?_
 refine qAl (qAg ?_)
 refine wws ?_
 refine qBb (l:=[(0,uV x),(5,.d (.int .u64 ((32-n:Nat):Int)))]) (h':=[]) ⟨.refl _,.int hr,trivial⟩ (HLe.refl _) ?_
 have h2:IntKind.u64.wrap (32-((32-n:Nat):Int))=(n:Int):=by rw [wrapu64 (by omega)];omega
 have h3:IntKind.u32.wrap (wI x*2 ^ (min (((32-n:Nat):Int)).toNat IntKind.u32.bits))=wI (x <<< (32-n)):=by
  rw [wshl,Int.toNat_natCast,show min (32-n) 32=32-n by omega]
 have h4:Int.fdiv (wI x) (2 ^ (min (IntKind.u64.wrap (32-((32-n:Nat):Int))).toNat IntKind.u32.bits))=wI (x >>> n):=by
  rw [h2,wshr,Int.toNat_natCast,show min n 32=n by omega]
 refine ww ?_
 refine rq ⟨rfl,rfl⟩ rfl (AV.le.int ?_)
 show IntKind.u32.wrap ((BitVec.ofInt IntKind.u32.bits (IntKind.u32.wrap (wI x*2 ^ (min (((32-n:Nat):Int)).toNat IntKind.u32.bits))) ||| BitVec.ofInt IntKind.u32.bits (Int.fdiv (wI x) (2 ^ (min (IntKind.u64.wrap (32-((32-n:Nat):Int))).toNat IntKind.u32.bits)))).toNat:Int)=_
 rw [h3,h4,wI_or,rotW_comm]
def qMf (x:BitVec 32) (l:List Nat):BitVec 32:=l.foldl (fun a n=>a ^^^ qFh x n) 0
theorem rotsW_take (x:BitVec 32) (l:List Nat) {i:Nat} (h:i < l.length):qMf x (l.take (i+1))=qMf x (l.take i) ^^^ qFh x (l.getD i 0):=by
 unfold qMf
 rw [List.take_add_one,List.foldl_append,List.getElem?_eq_getElem h]
 simp [h]
theorem encNs'_at {l:List Nat} {i:Nat} (h:i < l.length):(encNs' l)[i]?=some [.int .i64 ((l.getD i 0:Nat):Int)]:=by
 unfold encNs'
 rw [List.getElem?_map,List.getElem?_eq_getElem h]
 simp [h]
theorem qNf (x:BitVec 32) (l:List Nat) (hl:l.length≤10) (hn:∀ n,n∈l→1≤n∧n≤31):Spec Tryz.prog 312 [uV x,.d (.sl 1 (encNs' l))] [] (fun r h'=>r=uV (qMf x l)∧h'=[]):=by
 have hlen:(encNs' l).length=l.length:=by simp [encNs']
 refine qAa hT Tryz.func312 rfl rfl rfl rfl ?_;intro E hE
 refine ww ?_
 refine qAt (ι:=Nat) (fun i=>[(0,uV x),(5,uV (qMf x (l.take i))),(8,.d (.sl 1 (encNs' l))),(9,.I (l.length:Int)),(10,.I (i:Int))]) (fun _=>[])
  (fun i=>i≤l.length) (fun i=>l.length-i) 0 (Nat.zero_le _) ⟨.refl _,.refl _,.refl _,.int (by rw [hlen]),.refl _,trivial⟩ (HLe.refl _) ?_
 intro i hi
 refine ww ?_
 refine qAb rfl (fun h1=>?_) (fun h1=>?_)
 ·have h1':i < l.length:=by simp at h1;omega
  have hat:=encNs'_at h1'
  have hni:1≤l.getD i 0∧l.getD i 0≤31:=by
   rw [List.getD_eq_getElem?_getD,List.getElem?_eq_getElem h1'];exact hn _ (List.getElem_mem h1')
  have hstep:=rotsW_take x l h1'
  refine ww ?_
  refine wwi hat ?_
  refine ww ?_
  refine wwc (qRi x (l.getD i 0) hni) ?_
  refine ww ?_
  exact ⟨i+1,h1',by omega,⟨.refl _,.int (by rw [hstep];exact wI_xor _ _),.refl _,.refl _,.int (by rw [qAf (by omega)];omega),trivial⟩,HLe.refl _⟩
 ·have h1':i=l.length:=by simp at h1;omega
  subst h1'
  rw [List.take_length]
  refine ww ?_
  exact wwr
theorem encB_getD {b:List UInt8} {i:Nat} (h:i < b.length):(qAe b)[i]?=some [.int .u8 ((b.getD i 0).toNat:Int)]:=encB_byte h
theorem qPq (b:List UInt8) (h:4≤b.length):Spec Tryz.prog 314 [.d (.sl 1 (qAe b))] [] (fun r h'=>r=uV (qMa b 0)∧h'=[]):=by
 have h0:=encB_getD (b:=b) (i:=0) (by omega)
 have h1:=encB_getD (b:=b) (i:=1) (by omega)
 have h2:=encB_getD (b:=b) (i:=2) (by omega)
 have h3:=encB_getD (b:=b) (i:=3) (by omega)
 refine qAa hT Tryz.func314 rfl rfl rfl rfl ?_;intro E hE
 refine ww ?_
 refine wwi h0 ?_
 refine ww ?_
 refine wwi h1 ?_
 refine ww ?_
 refine wwi h2 ?_
 refine ww ?_
 refine wwi h3 ?_
 refine ww ?_
 refine rq ⟨rfl,rfl⟩ rfl (AV.le.int ?_)
 simp only [wI_byte,wshl,wI_or]
 rfl
theorem qOf:Spec Tryz.prog 275 [] [] (fun r h'=>r=.d (.sl 1 (qIj qNb))∧h'=[]):=by
 refine qAa hT Tryz.func275 rfl rfl rfl rfl ?_;intro E hE
 refine ww ?_
 refine rq ⟨rfl,rfl⟩ rfl ?_
 exact AV.le.dat' rfl
theorem bytesOf_spec (x:BitVec 32):Spec Tryz.prog 278 [uV x] [] (fun r h'=>r=.d (.sl 1 (qAe (qCv x)))∧h'=[]):=by
 refine qAa hT Tryz.func278 rfl rfl rfl rfl ?_;intro E hE
 refine ww ?_
 refine rq ⟨rfl,rfl⟩ rfl (AV.le.dat' ?_)
 simp only [wshr,bW_wrap]
 rfl
theorem qLv (es:List (List Dat)) (hl:es.length≤1000000):Spec Tryz.prog 36 [.d (.sl 1 es)] [.room] (fun r h'=>r=.sl 1 es (.right 0)∧h'=[.right 1 es.length]):=by
 refine qAa hT Tryz.func36 rfl rfl rfl rfl ?_;intro E hE
 refine ww ?_
 refine qCl (eqNil_ok hT (fun _=>rfl) rfl rfl rfl) rfl ?_
 rintro v h' ⟨rfl,b,rfl,hb⟩
 refine ww ?_
 refine qAb rfl (fun h1=>?_) (fun h1=>?_)
 ·obtain rfl:=hb h1
  refine qAl (qAg ?_)
  refine wws ?_
  refine qBj 2 1 0 (es:=[]) (.inr ⟨rfl,rfl⟩) rfl ?_
  refine ww ?_
  exact wwr
 ·refine ww ?_
  refine qAd (qLg (i:=0) hT rfl rfl rfl (.inl rfl) (by simp) rfl rfl (by show es.length*(1+1)≤140737488355328;omega)) rfl ?_
  refine ww ?_
  exact wwr
theorem qAv (es:List (List Dat)) (hl:es.length≤1000000):Spec Tryz.prog 36 [.d (.sl 1 es)] [] (fun r h'=>r=.d (.sl 1 es)∧h'=[]):=by
 refine qAa hT Tryz.func36 rfl rfl rfl rfl ?_;intro E hE
 refine ww ?_
 refine qCl (eqNil_ok hT (fun _=>rfl) rfl rfl rfl) rfl ?_
 rintro v h' ⟨rfl,b,rfl,hb⟩
 refine ww ?_
 refine qAb rfl (fun h1=>?_) (fun h1=>?_)
 ·obtain rfl:=hb h1
  refine ww ?_
  exact qAx rfl AV.le.nils rfl rfl rfl rfl ⟨rfl,rfl⟩
 ·refine ww ?_
  refine qAd (qBn (es:=[]) hT rfl rfl rfl (.inl rfl) rfl (by show (([]:List (List Dat)).length+es.length)*(1+1)≤140737488355328;simp;omega)) rfl ?_
  refine ww ?_
  exact qAx rfl (.refl _) rfl rfl rfl rfl ⟨rfl,rfl⟩
theorem wI_nat (m:Nat):IntKind.u32.wrap (m:Int)=wI (BitVec.ofNat 32 m):=by
 rw [wrap32];unfold wI;rw [BitVec.toNat_ofNat];omega
theorem encB_rep0 (b:List UInt8) (j:Nat):qAe (b++[128]++List.replicate (j+1) 0)=qAe (b++[128]++List.replicate j 0)++[[.int .u8 0]]:=by
 rw [List.replicate_succ',← List.append_assoc,encB_append];rfl
theorem qTf (b:List UInt8) (hb:b.length≤900000):Spec Tryz.prog 276 [.d (.sl 1 (qAe b))] [] (fun r h'=>r=.d (.sl 1 (qAe (qOk b)))∧h'=[]):=by
 have hbl:=encB_length b
 have hz:=padZ_lt b.length
 have hcl:=qLv (qAe b) (by omega)
 have hp:=padW_eq b
 rw [len8 _ (by omega)] at hp
 refine qAa hT Tryz.func276 rfl rfl rfl rfl ?_;intro E hE
 refine qAj ?_
 refine ww ?_
 refine qAd (qBe (v:=.sl 1 (qAe b) (.right 0)) (H':=[.right 1 (qAe b).length]) rfl rfl hcl [0] (by decide) rfl rfl rfl rfl rfl rfl rfl) rfl ?_
 refine ww ?_
 refine qAd (qAh (i:=0) hT rfl rfl rfl rfl rfl rfl (by show ((qAe b).length+1)*(1+1)≤_;omega)) rfl ?_
 refine ww ?_
 refine qAt (ι:=Nat) (fun j=>[(0,.d (.sl 1 (qAe b))),(3,.sl 1 (qAe (b++[128]++List.replicate j 0)) (.right 0))]) (fun j=>[.right 1 (qAe (b++[128]++List.replicate j 0)).length]) (fun j=>j≤qNj b.length) (fun j=>qNj b.length-j) 0 (Nat.zero_le _)
  ⟨.refl _,.slt (by rw [List.replicate_zero,List.append_nil,encB_append];rfl),trivial⟩ ⟨⟨rfl,by simp [encB_length]⟩,trivial⟩ ?_
 intro j hj
 have hlj:(qAe (b++[128]++List.replicate j 0)).length=b.length+1+j:=by rw [encB_length];simp;omega
 have hif:=padZ_iff hj
 refine ww ?_
 refine qAb rfl (fun h1=>?_) (fun h1=>?_)
 ·have h1':j < qNj b.length:=by
   rw [hlj] at h1
   have:(b.length+1+j) % 64≠56:=fun hc=>by
    have e:Int.tmod ((b.length+1+j:Nat):Int) 64=(((b.length+1+j) % 64:Nat):Int):=rfl
    rw [e,hc] at h1;exact absurd h1 (by decide)
   have:=fun hc=>this (hif.2 hc)
   omega
  have hs:=encB_rep0 b j
  refine ww ?_
  refine qAd (qAh (i:=0) hT rfl rfl rfl rfl rfl rfl (by show ((qAe (b++[128]++List.replicate j 0)).length+1)*(1+1)≤_;omega)) rfl ?_
  refine ww ?_
  exact ⟨j+1,h1',by omega,⟨.refl _,.slt hs.symm,trivial⟩,⟨⟨rfl,by rw [hs]⟩,trivial⟩⟩
 ·have h1':j=qNj b.length:=by
   rw [hlj] at h1
   refine hif.1 ?_
   have e:Int.tmod ((b.length+1+j:Nat):Int) 64=(((b.length+1+j) % 64:Nat):Int):=rfl
   rw [e] at h1
   simp at h1
   omega
  subst h1'
  refine wwe ?_
  refine qAl (qAg ?_)
  refine wws ?_
  refine qBb (l:=[(3,.sl 1 (qAe (b++[128]++List.replicate (qNj b.length) 0)) (.right 0)),(4,.d (.int .u64 ((8*b.length:Nat):Int)))]) (h':=[.right 1 (qAe (b++[128]++List.replicate (qNj b.length) 0)).length]) ⟨.refl _,.int ?_,trivial⟩ (HLe.refl _) ?_
  ·show IntKind.u64.wrap (8*IntKind.u64.wrap ((qAe b).length:Int))=_
   rw [hbl,wrapu64 (n:=(b.length:Int)) (by omega),wrapu64 (by omega)];omega
  have h5:IntKind.u32.wrap (Int.fdiv ((8*b.length:Nat):Int) (2 ^ (min (32:Int).toNat IntKind.u64.bits)))=wI (BitVec.ofNat 32 (8*b.length / 4294967296)):=by
   rw [← wI_nat];exact congrArg IntKind.u32.wrap (qHg (8*b.length) 32)
  have h6:IntKind.u32.wrap ((8*b.length:Nat):Int)=wI (BitVec.ofNat 32 (8*b.length)):=wI_nat _
  refine ww ?_
  refine wwc (bytesOf_spec (BitVec.ofNat 32 (8*b.length / 4294967296))) ?_
  refine ww ?_
  refine qAd (qAh (i:=0) hT rfl rfl rfl rfl rfl rfl (by show ((qAe (b++[128]++List.replicate (qNj b.length) 0)).length+4)*(1+1)≤_;omega)) rfl ?_
  refine ww ?_
  refine wwc (bytesOf_spec (BitVec.ofNat 32 (8*b.length))) ?_
  refine ww ?_
  refine qAd (qAh (i:=0) hT rfl rfl rfl rfl rfl rfl (by rw [List.length_append];show ((qAe (b++[128]++List.replicate (qNj b.length) 0)).length+4+4)*(1+1)≤_;omega)) rfl ?_
  refine ww ?_
  refine rq ⟨rfl,rfl⟩ rfl (AV.le.dat' ?_)
  rw [hp,← List.append_assoc];simp only [encB_append]
theorem loadI_head {T:Tr} {t:Nat} {ti:TI} {cs:List Dat} {d:Dat} (hf:T.find t=some ti) (ha:ti.agg=false) (hd:cs[0]?=some d):qQf T t cs=some (.d d):=by
 unfold qQf;rw [hf];simp only;rw [ha];simp only;rw [hd]
def kD:List Dat:=kW.map fun x=>.int .u32 (wI x)
set_option maxRecDepth 100000 in
theorem kD_tab:qFq 0=some kD:=by kernel_rfl
theorem kD_at {n:Nat} (h:n < 64):(kD.drop n)[0]?=some (.int .u32 (wI (kW.getD n 0))):=by
 have hl:kW.length=64:=rfl
 unfold kD
 rw [← List.map_drop,List.getElem?_map,List.getElem?_drop,Nat.add_zero,List.getElem?_eq_getElem (by omega)]
 simp [show n < kW.length by omega]
def vC (v:Vw):List AV:=[uV v.a,uV v.b,uV v.c,uV v.d,uV v.e,uV v.f,uV v.g,uV v.h]
theorem encW_length (v:Vw):(qIj v).length=8:=rfl
theorem encW_at (v:Vw) {i:Nat} (h:i < 8):(qIj v)[i]?=some [.int .u32 (wI ((vwL v).getD i 0))]:=by
 have hl:(vwL v).length=8:=rfl
 unfold qIj
 rw [List.getElem?_map,List.getElem?_eq_getElem (by omega)]
 simp [show i < (vwL v).length by omega]
theorem vC_at (v:Vw) {i:Nat} (h:i < 8):(vC v)[i]?=some (uV ((vwL v).getD i 0)):=by
 have hl:(vwL v).length=8:=rfl
 have:vC v=(vwL v).map uV:=rfl
 rw [this,List.getElem?_map,List.getElem?_eq_getElem (by omega)]
 simp [show i < (vwL v).length by omega]
def qSb (v r:Vw):Vw:=⟨v.a+r.a,v.b+r.b,v.c+r.c,v.d+r.d,v.e+r.e,v.f+r.f,v.g+r.g,v.h+r.h⟩
theorem addV_at (v r:Vw) {i:Nat} (h:i < 8):(vwL (qSb v r)).getD i 0=(vwL v).getD i 0+(vwL r).getD i 0:=by
 rcases (by omega:i=0∨i=1∨i=2∨i=3∨i=4∨i=5∨i=6∨i=7) with rfl | rfl | rfl | rfl | rfl | rfl | rfl | rfl <;> rfl
def qPm (v r:Vw) (i:Nat):List AV:=((vwL (qSb v r)).take i).map uV++List.replicate (8-i) (uV 0)
theorem sumC_set (v r:Vw) {i:Nat} (h:i < 8):(qPm v r i).set i (uV ((vwL v).getD i 0+(vwL r).getD i 0))=qPm v r (i+1):=by
 rw [← addV_at v r h]
 have hl:(vwL (qSb v r)).length=8:=rfl
 unfold qPm
 rw [List.take_add_one,List.map_append,List.set_append_right _ _ (by simp [hl];omega),show 8-i=(8-(i+1))+1 by omega,List.replicate_succ,List.append_assoc]
 simp [hl,show min i 8=i by omega,h]
theorem sumC_length (v r:Vw) {i:Nat} (h:i≤8):(qPm v r i).length=8:=by
 have hl:(vwL (qSb v r)).length=8:=rfl
 unfold qPm;simp [hl];omega
theorem sumC_all (v r:Vw):RowDat (qPm v r 8) 0 1 (qIj (qSb v r)):=by
 refine ⟨fun e he=>?_,fun i e j d he hd=>?_⟩
 ·simp only [qIj,List.mem_map] at he
  obtain ⟨b,_,rfl⟩:=he;rfl
 ·have hi:i < 8:=by have:=(List.getElem?_eq_some_iff.1 he).1;simpa [encW_length] using this
  rw [encW_at _ hi] at he
  cases he
  cases j with
  | zero =>
   simp at hd;subst hd
   have:qPm v r 8=vC (qSb v r):=rfl
   exact ⟨uV ((vwL (qSb v r)).getD i 0),by rw [this,Nat.zero_add,Nat.mul_one,Nat.add_zero];exact vC_at _ hi,rfl⟩
  | succ j=>simp at hd
theorem compW_eq (v:Vw) (b:List UInt8):qOz v b=qSb v (qEs v (qGv b 64) 64):=rfl
theorem qQv (b:List UInt8) (t:Nat):qMa (b.drop t) 0=qMa b t:=by
 unfold qMa
 simp only [List.getD_eq_getElem?_getD,List.getElem?_drop,Nat.zero_add,Nat.add_zero]
theorem rots2 (x:BitVec 32) (i j:Nat):qMf x [i,j]=qFh x i ^^^ qFh x j:=by
 show (0#32 ^^^ qFh x i) ^^^ qFh x j=_
 rw [BitVec.zero_xor]
theorem rots3 (x:BitVec 32) (i j k:Nat):qMf x [i,j,k]=qFh x i ^^^ qFh x j ^^^ qFh x k:=by
 show ((0#32 ^^^ qFh x i) ^^^ qFh x j) ^^^ qFh x k=_
 rw [BitVec.zero_xor]
theorem qKo (x:BitVec 32) (i j:Nat) (hi:1≤i∧i≤31) (hj:1≤j∧j≤31):Spec Tryz.prog 312 [uV x,.d (.sl 1 [[.int .i64 (i:Int)],[.int .i64 (j:Int)]])] [] (fun r h'=>r=uV (qFh x i ^^^ qFh x j)∧h'=[]):=by
 rw [← rots2]
 exact qNf x [i,j] (by simp) (fun n hn=>by simp at hn;rcases hn with rfl | rfl <;> assumption)
theorem qKn (x:BitVec 32) (i j k:Nat) (hi:1≤i∧i≤31) (hj:1≤j∧j≤31) (hk:1≤k∧k≤31):Spec Tryz.prog 312 [uV x,.d (.sl 1 [[.int .i64 (i:Int)],[.int .i64 (j:Int)],[.int .i64 (k:Int)]])] [] (fun r h'=>r=uV (qFh x i ^^^ qFh x j ^^^ qFh x k)∧h'=[]):=by
 rw [← rots3]
 exact qNf x [i,j,k] (by simp) (fun n hn=>by simp at hn;rcases hn with rfl | rfl | rfl <;> assumption)
theorem roundW_zero (v:Vw) (w:List (BitVec 32)):qEs v w 0=v:=rfl
theorem roundW_succ (v:Vw) (w:List (BitVec 32)) (n:Nat):qEs v w (n+1)=qTx (qEs v w n) (kW.getD n 0) (w.getD n 0):=rfl
theorem qJy (v:Vw) (b:List UInt8) (hb:b.length=64):Spec Tryz.prog 277 [.d (.sl 1 (qIj v)),.d (.sl 1 (qAe b))] [] (fun r h'=>r=.tup [.d (.sl 1 (qIj (qOz v b))),.I 0]∧h'=[]):=by
 have hbl:=encB_length b
 obtain ⟨m,hm⟩:∃ m:Nat,m=64:=⟨_,rfl⟩
 have hfin:qOz v b=qSb v (qEs v (qGv b m) m):=by subst hm;exact compW_eq v b
 have hcw:∀ n,n < m→(cellsW b m)[n]?=some (uV ((qGv b m).getD n 0)):=by subst hm;exact fun n h=>cells64 b h
 rw [hfin]
 clear hfin
 refine qAa hT Tryz.func277 rfl rfl rfl rfl ?_;intro E hE
 refine ww ?_
 refine qAb rfl (fun c1=>?_) (fun c1=>?_)
 ·exact absurd c1 (by simp [encW_length,hbl,hb])
 refine ww ?_
 refine qAt (ι:=Nat) (fun t=>[(0,.d (.sl 1 (qIj v))),(1,.d (.sl 1 (qAe b))),(6,.fn (.func 312) [] []),(7,.ptr 0 0),(27,.I (t:Int))]) (fun t=>[.row (cellsW b t)]) (fun t=>t≤m) (fun t=>m-t) 0 (Nat.zero_le _)
  yf ⟨ObLe.row rfl,trivial⟩ ?_
 intro t ht
 have hcl:=cellsW_length b (t:=t) (by omega)
 refine ww ?_
 refine qAb rfl (fun c2=>?_) (fun c2=>?_)
 ·have ht':t < 64:=by simp at c2;omega
  refine ww ?_
  refine qAb rfl (fun c3=>?_) (fun c3=>?_)
  ·have c3':t < 16:=by simp at c3;omega
   have hw4:IntKind.i64.wrap (4*(t:Int))=((4*t:Nat):Int):=by rw [qAf (by omega)];omega
   refine qAl (qAg ?_)
   refine wk hT rfl rfl ?_
   refine wk hT rfl rfl ?_
   refine wk hT rfl rfl ?_
   refine wk hT rfl rfl ?_
   refine wk hT rfl rfl ?_
   rw [hw4,Int.toNat_natCast,encB_drop]
   refine wwc (qPq (b.drop (4*t)) (by rw [List.length_drop];omega)) ?_
   rw [qQv]
   have hst:=cellsW_set b ht'
   rw [schW_word b c3'] at hst
   refine qAd (qAc (arrPtr_ok hT rfl rfl rfl rfl (by omega))) rfl ?_
   refine qBp (qDg hT rfl rfl rfl rfl rfl rfl (by show 0+((t:Int)).toNat*1 < (cellsW b t).length;rw [hcl];omega)) rfl ?_
   rw [show 0+((t:Int)).toNat*1=t by omega]
   refine ww ?_
   exact ⟨t+1,by omega,by omega,⟨.refl _,.refl _,.refl _,.refl _,.int (by rw [qAf (by omega)];omega),trivial⟩,⟨ObLe.row hst,trivial⟩⟩
  ·have c3':16≤t:=by simp at c3;omega
   have hx:=cellsW_at b (i:=t-15) (t:=t) (by omega)
   have hy:=cellsW_at b (i:=t-2) (t:=t) (by omega)
   have h7:=cellsW_at b (i:=t-7) (t:=t) (by omega)
   have h16:=cellsW_at b (i:=t-16) (t:=t) (by omega)
   have hst:=cellsW_set b ht'
   rw [schW_next b c3'] at hst
   generalize (qGv b t).getD (t-15) 0=x at hx hst
   generalize (qGv b t).getD (t-2) 0=y at hy hst
   generalize (qGv b t).getD (t-7) 0=z7 at h7 hst
   generalize (qGv b t).getD (t-16) 0=z16 at h16 hst
   have e15:IntKind.i64.wrap ((t:Int)-15)=((t-15:Nat):Int):=by rw [qAf (by omega)];omega
   have e2:IntKind.i64.wrap ((t:Int)-2)=((t-2:Nat):Int):=by rw [qAf (by omega)];omega
   have e7:IntKind.i64.wrap ((t:Int)-7)=((t-7:Nat):Int):=by rw [qAf (by omega)];omega
   have e16:IntKind.i64.wrap ((t:Int)-16)=((t-16:Nat):Int):=by rw [qAf (by omega)];omega
   refine ww ?_
   refine qAz (qAc (arrPtr_ok hT rfl rfl rfl rfl (by rw [e15];omega))) rfl rfl ?_
   refine qAz (qCb (v:=uV x) hT rfl rfl rfl rfl rfl (by rw [e15];show (cellsW b t)[0+((t-15:Nat):Int).toNat*1]?=_;rw [show 0+((t-15:Nat):Int).toNat*1=t-15 by omega];exact hx)) rfl rfl ?_
   refine ww ?_
   refine qAz (qAc (arrPtr_ok hT rfl rfl rfl rfl (by rw [e2];omega))) rfl rfl ?_
   refine qAz (qCb (v:=uV y) hT rfl rfl rfl rfl rfl (by rw [e2];show (cellsW b t)[0+((t-2:Nat):Int).toNat*1]?=_;rw [show 0+((t-2:Nat):Int).toNat*1=t-2 by omega];exact hy)) rfl rfl ?_
   refine wwn ?_
   refine qBb (l:=[(0,.d (.sl 1 (qIj v))),(1,.d (.sl 1 (qAe b))),(6,.fn (.func 312) [] []),(7,.ptr 0 0),(8,.I (t:Int)),(9,uV x),(10,uV y),(27,.I (t:Int))]) (h':=[.row (cellsW b t)]) yf (HLe.refl _) ?_
   refine qCd (fun _=>[0]) (fun i=>bif Nat.beq i 27 then [0] else []) mixed (by kernel_rfl) ?_
   refine wwg ?_
   refine qAk (os:=[]) (fun k hk1 hk2=>buildSl_ok hT rfl rfl) rfl ?_
   refine wwdc (qKo y 17 19 (by omega) (by omega)) ?_
   refine wwg ?_
   refine qAk (os:=[]) (fun k hk1 hk2=>qAc (arrPtr_ok hT rfl rfl rfl rfl (by rw [e7];omega))) rfl ?_
   refine qAk (v:=uV z7) (os:=[]) (fun k hk1 hk2=>qCb hT rfl rfl ((hk2 0 List.mem_cons_self).trans rfl) rfl rfl (by rw [e7];show (cellsW b t)[0+((t-7:Nat):Int).toNat*1]?=_;rw [show 0+((t-7:Nat):Int).toNat*1=t-7 by omega];exact h7)) rfl ?_
   refine wwg ?_
   refine qAk (os:=[]) (fun k hk1 hk2=>buildSl_ok hT rfl rfl) rfl ?_
   refine wwdc (qKo x 7 18 (by omega) (by omega)) ?_
   refine wwg ?_
   refine qAk (os:=[]) (fun k hk1 hk2=>qAc (arrPtr_ok hT rfl rfl rfl rfl (by rw [e16];omega))) rfl ?_
   refine qAk (v:=uV z16) (os:=[]) (fun k hk1 hk2=>qCb hT rfl rfl ((hk2 0 List.mem_cons_self).trans rfl) rfl rfl (by rw [e16];show (cellsW b t)[0+((t-16:Nat):Int).toNat*1]?=_;rw [show 0+((t-16:Nat):Int).toNat*1=t-16 by omega];exact h16)) rfl ?_
   refine wwg ?_
   refine qAk (os:=[]) (fun k hk1 hk2=>qAc (arrPtr_ok hT rfl rfl rfl rfl (by omega))) rfl ?_
   have hval:∀ r,r=wI (sg1 y+z7+sg0 x+z16)→(cellsW b t).set (0+((t:Int)).toNat*1) (.d (.int .u32 r))=cellsW b (t+1):=by
    intro r hr;subst hr;rw [show 0+((t:Int)).toNat*1=t by omega];exact hst
   refine qAk (v:=.any) (os:=[.row ((cellsW b t).set (0+((t:Int)).toNat*1) _)]) (fun k hk1 hk2=>qDg hT rfl rfl ((hk2 0 List.mem_cons_self).trans rfl) rfl rfl rfl (by show 0+((t:Int)).toNat*1 < (cellsW b t).length;rw [hcl];omega)) rfl ?_
   refine wwg ?_
   refine ww ?_
   exact ⟨t+1,by omega,by omega,⟨.refl _,.refl _,.refl _,.refl _,.int (by rw [qAf (by omega)];omega),trivial⟩,⟨ObLe.row (hval _ (by simp only [wshr,wI_xor,wI_add];rfl)),trivial⟩⟩
 have ht':t=m:=by simp at c2;omega
 subst ht'
 generalize cellsW b t=cw at hcw hcl ⊢
 generalize qGv b t=w at hcw ⊢
 refine ww ?_
 refine qAd (qAc (sliceArr_ok hT rfl rfl rfl (by rw [encW_length];omega))) rfl ?_
 refine ww ?_
 refine qAt (ι:=Nat) (fun n=>[(0,.d (.sl 1 (qIj v))),(6,.fn (.func 312) [] []),(7,.ptr 0 0),(11,.ptr 1 0),(78,.I (n:Int))]) (fun n=>[.row (cw),.row (vC (qEs v w n))]) (fun n=>n≤t) (fun n=>t-n) 0 (Nat.zero_le _)
  yf ⟨ObLe.refl _,ObLe.row (by rw [roundW_zero];rfl),trivial⟩ ?_
 intro n hn
 refine ww ?_
 refine qAb rfl (fun c3=>?_) (fun c3=>?_)
 ·have hn':n < 64:=by simp at c3;omega
  have hr1:=roundW_succ v w n
  have hwn:=hcw n (by omega)
  have hkn:=kD_at hn'
  generalize qEs v w n=r at hr1 ⊢
  generalize w.getD n 0=wn at hr1 hwn
  generalize kW.getD n 0=kn at hr1 hkn
  refine ww ?_
  first | refine qAd (qAc (arrPtr_ok hT rfl rfl rfl rfl (by decide))) rfl ?_ | refine qAz (qAc (arrPtr_ok hT rfl rfl rfl rfl (by decide))) rfl rfl ?_
  refine ww ?_
  first | refine qAd (qAc (arrPtr_ok hT rfl rfl rfl rfl (by decide))) rfl ?_ | refine qAz (qAc (arrPtr_ok hT rfl rfl rfl rfl (by decide))) rfl rfl ?_
  refine wwn ?_
  refine qBb (l:=[(0,.d (.sl 1 (qIj v))),(6,.fn (.func 312) [] []),(7,.ptr 0 0),(11,.ptr 1 0),(12,.I (n:Int)),(13,uV r.a),(14,uV r.e),(78,.I (n:Int))]) (h':=[.row (cw),.row (vC r)]) yf (HLe.refl _) ?_
  refine wx mixed ?_
  refine wws ?_
  first | refine qAd (qAc (arrPtr_ok hT rfl rfl rfl rfl (by decide))) rfl ?_ | refine qAz (qAc (arrPtr_ok hT rfl rfl rfl rfl (by decide))) rfl rfl ?_
  refine wws ?_
  refine wwc (qKn r.e 6 11 25 (by omega) (by omega) (by omega)) ?_
  refine wws ?_
  first | refine qAd (qAc (arrPtr_ok hT rfl rfl rfl rfl (by decide))) rfl ?_ | refine qAz (qAc (arrPtr_ok hT rfl rfl rfl rfl (by decide))) rfl rfl ?_
  refine wws ?_
  first | refine qAd (qAc (arrPtr_ok hT rfl rfl rfl rfl (by decide))) rfl ?_ | refine qAz (qAc (arrPtr_ok hT rfl rfl rfl rfl (by decide))) rfl rfl ?_
  refine wws ?_
  refine qAz (qAc (arrAddr_ok (cs:=kD) hT rfl rfl (by show (match qFq 0 with | some cs=>AV.iptr cs | none=>.any)=_;rw [kD_tab]) rfl (by omega))) rfl rfl ?_
  refine qAz (qAc (loadI_ok hT rfl rfl (loadI_head rfl rfl (by rw [show ((n:Int)).toNat*1=n by omega];exact hkn)))) rfl rfl ?_
  refine wws ?_
  refine qAz (qAc (arrPtr_ok hT rfl rfl rfl rfl (by omega))) rfl rfl ?_
  refine qAz (qCb (v:=uV wn) hT rfl rfl rfl rfl rfl (by show (cw)[0+((n:Int)).toNat*1]?=_;rw [show 0+((n:Int)).toNat*1=n by omega];exact hwn)) rfl rfl ?_
  refine wwn ?_
  refine qBb (l:=[(0,.d (.sl 1 (qIj v))),(6,.fn (.func 312) [] []),(7,.ptr 0 0),(11,.ptr 1 0),(12,.I (n:Int)),(13,uV r.a),(14,uV r.e),(15,uV (r.h+bs1 r.e+((r.e &&& r.f) ^^^ (~~~ r.e &&& r.g))+kn+wn)),(78,.I (n:Int))]) (h':=[.row cw,.row (vC r)])
   ⟨.refl _,.refl _,.refl _,.refl _,.refl _,.refl _,.refl _,.int (by simp only [wI_not,wI_and,wI_xor,wI_add,uV];rfl),.refl _,trivial⟩ (HLe.refl _) ?_
  generalize hT1:r.h+bs1 r.e+((r.e &&& r.f) ^^^ (~~~ r.e &&& r.g))+kn+wn=T1
  refine wx mixed ?_
  refine wws ?_
  refine wwc (qKn r.a 2 13 22 (by omega) (by omega) (by omega)) ?_
  refine wws ?_
  first | refine qAd (qAc (arrPtr_ok hT rfl rfl rfl rfl (by decide))) rfl ?_ | refine qAz (qAc (arrPtr_ok hT rfl rfl rfl rfl (by decide))) rfl rfl ?_
  refine wws ?_
  first | refine qAd (qAc (arrPtr_ok hT rfl rfl rfl rfl (by decide))) rfl ?_ | refine qAz (qAc (arrPtr_ok hT rfl rfl rfl rfl (by decide))) rfl rfl ?_
  refine wws ?_
  first | refine qAd (qAc (arrPtr_ok hT rfl rfl rfl rfl (by decide))) rfl ?_ | refine qAz (qAc (arrPtr_ok hT rfl rfl rfl rfl (by decide))) rfl rfl ?_
  refine wws ?_
  first | refine qAd (qAc (arrPtr_ok hT rfl rfl rfl rfl (by decide))) rfl ?_ | refine qAz (qAc (arrPtr_ok hT rfl rfl rfl rfl (by decide))) rfl rfl ?_
  refine wws ?_
  refine qBb (l:=[(0,.d (.sl 1 (qIj v))),(6,.fn (.func 312) [] []),(7,.ptr 0 0),(11,.ptr 1 0),(15,uV T1),(16,uV (bs0 r.a+((r.a &&& r.b) ^^^ (r.a &&& r.c) ^^^ (r.b &&& r.c)))),(78,.I (n:Int))]) (h':=[.row cw,.row (vC r)])
   ⟨.refl _,.refl _,.refl _,.refl _,.refl _,.int (by simp only [wI_not,wI_and,wI_xor,wI_add,uV];rfl),.refl _,trivial⟩ (HLe.refl _) ?_
  generalize hT2:bs0 r.a+((r.a &&& r.b) ^^^ (r.a &&& r.c) ^^^ (r.b &&& r.c))=T2
  have hfv:vC (qTx r kn wn)=[uV (T1+T2),uV r.a,uV r.b,uV r.c,uV (r.d+T1),uV r.e,uV r.f,uV r.g]:=by rw [← hT1,← hT2];rfl
  refine ww ?_
  first | refine qAd (qAc (arrPtr_ok hT rfl rfl rfl rfl (by decide))) rfl ?_ | refine qAz (qAc (arrPtr_ok hT rfl rfl rfl rfl (by decide))) rfl rfl ?_
  refine ww ?_
  first | refine qAd (qAc (arrPtr_ok hT rfl rfl rfl rfl (by decide))) rfl ?_ | refine qAz (qAc (arrPtr_ok hT rfl rfl rfl rfl (by decide))) rfl rfl ?_
  refine ww ?_
  first | refine qAd (qAc (arrPtr_ok hT rfl rfl rfl rfl (by decide))) rfl ?_ | refine qAz (qAc (arrPtr_ok hT rfl rfl rfl rfl (by decide))) rfl rfl ?_
  refine ww ?_
  first | refine qAd (qAc (arrPtr_ok hT rfl rfl rfl rfl (by decide))) rfl ?_ | refine qAz (qAc (arrPtr_ok hT rfl rfl rfl rfl (by decide))) rfl rfl ?_
  refine ww ?_
  first | refine qAd (qAc (arrPtr_ok hT rfl rfl rfl rfl (by decide))) rfl ?_ | refine qAz (qAc (arrPtr_ok hT rfl rfl rfl rfl (by decide))) rfl rfl ?_
  refine ww ?_
  first | refine qAd (qAc (arrPtr_ok hT rfl rfl rfl rfl (by decide))) rfl ?_ | refine qAz (qAc (arrPtr_ok hT rfl rfl rfl rfl (by decide))) rfl rfl ?_
  refine ww ?_
  first | refine qAd (qAc (arrPtr_ok hT rfl rfl rfl rfl (by decide))) rfl ?_ | refine qAz (qAc (arrPtr_ok hT rfl rfl rfl rfl (by decide))) rfl rfl ?_
  refine ww ?_
  exact ⟨n+1,by omega,by omega,⟨.refl _,.refl _,.refl _,.refl _,.int (by rw [qAf (by omega)];omega),trivial⟩,⟨ObLe.refl _,ObLe.row (by rw [hr1,hfv];simp only [uV,wI_add]),trivial⟩⟩
 have hn':n=t:=by simp at c3;omega
 subst hn'
 generalize qEs v w n=r
 refine ww ?_
 refine qAd (makeRow1_ok (n:=8) hT rfl rfl rfl rfl (by decide) (by decide)) rfl ?_
 refine ww ?_
 refine qAt (ι:=Nat) (fun i=>[(0,.d (.sl 1 (qIj v))),(11,.ptr 1 0),(17,.row 2 0 8 8),(154,.I 8),(155,.I (i:Int))]) (fun i=>[.row cw,.row (vC r),.row (qPm v r i)]) (fun i=>i≤8) (fun i=>8-i) 0 (Nat.zero_le _)
  yf ⟨ObLe.refl _,ObLe.refl _,ObLe.row rfl,trivial⟩ ?_
 intro i hi
 refine ww ?_
 refine qAb rfl (fun c4=>?_) (fun c4=>?_)
 ·have hi':i < 8:=by simp at c4;omega
  have hs:=sumC_set v r hi'
  have hv:=encW_at v hi'
  have hr:=vC_at r hi'
  have hsl:=sumC_length v r hi
  generalize (vwL v).getD i 0=x at hs hv
  generalize (vwL r).getD i 0=y at hs hr
  refine wwn ?_
  refine qCd (fun i=>bif Nat.beq i 8 then [1] else bif Nat.beq i 11 then [2] else []) (fun i=>bif Nat.beq i 11 then [2] else []) mixed (by kernel_rfl) ?_
  refine wwg ?_
  refine qAk (os:=[]) (fun k hk1 hk2=>qAc (indexAddr_ok hT rfl rfl rfl rfl (by omega) hv)) rfl ?_
  refine wwg ?_
  refine qAk (os:=[]) (fun k hk1 hk2=>qAc (arrPtr_ok hT rfl rfl rfl rfl (by omega))) rfl ?_
  refine qAk (v:=uV y) (os:=[]) (fun k hk1 hk2=>qCb hT rfl rfl ((hk2 1 List.mem_cons_self).trans rfl) rfl rfl (by show (vC r)[0+((i:Int)).toNat*1]?=_;rw [show 0+((i:Int)).toNat*1=i by omega];exact hr)) rfl ?_
  refine wwg ?_
  refine qAk (os:=[]) (fun k hk1 hk2=>qAc (rowAddr_ok (sz:=1) hT rfl rfl rfl rfl (by omega))) rfl ?_
  have hval:∀ z,z=wI (x+y)→(qPm v r i).set (0+((i:Int)).toNat*1) (.d (.int .u32 z))=qPm v r (i+1):=by
   intro z hz;subst hz;rw [show 0+((i:Int)).toNat*1=i by omega];exact hs
  refine qAk (v:=.any) (os:=[.row ((qPm v r i).set (0+((i:Int)).toNat*1) _)]) (fun k hk1 hk2=>qDg hT rfl rfl ((hk2 2 List.mem_cons_self).trans rfl) rfl rfl rfl (by show 0+((i:Int)).toNat*1 < (qPm v r i).length;rw [hsl];omega)) rfl ?_
  refine wwg ?_
  refine ww ?_
  exact ⟨i+1,hi',by omega,⟨.refl _,.refl _,.refl _,.refl _,.int (by rw [qAf (by omega)];omega),trivial⟩,⟨ObLe.refl _,ObLe.refl _,ObLe.row (hval _ (wI_add x y)),trivial⟩⟩
 have hi':i=8:=by simp at c4;omega
 subst hi'
 refine wwe ?_
 refine qEk 17 2 1 (qIj (qSb v r)) rfl rfl rfl (by decide) (sumC_all v r) ?_
 refine ww ?_
 exact wwr
end Tdoc
namespace Tdoc
open Go
def nbN (v:List UInt8):Nat:=v.foldl (fun n c=>256*n+c.toNat) 0
theorem nbN_snoc (v:List UInt8) (c:UInt8):nbN (v++[c])=256*nbN v+c.toNat:=by simp [nbN]
theorem nbN_lt:∀ (v:List UInt8),nbN v < 256 ^ v.length:=fun v=>by
 suffices h:∀ (v:List UInt8) (n:Nat),v.foldl (fun n c=>256*n+c.toNat) n < (n+1)*256 ^ v.length by
  have:=h v 0;simpa [nbN] using this
 intro v
 induction v with
 | nil=>intro n;simp
 | cons c v ih =>
  intro n
  have h1:=ih (256*n+c.toNat)
  have h2:=UInt8.toNat_lt c
  rw [List.foldl_cons,List.length_cons,Nat.pow_succ,Nat.mul_comm (256 ^ v.length) 256,← Nat.mul_assoc]
  exact Nat.lt_of_lt_of_le h1 (Nat.mul_le_mul_right _ (by omega))
open Go Go.Proofs
def qOo (v:List UInt8):Int×Int:=if v.length≠4 then (0,2) else if qCp ((nbN v:Nat):Int)=false then (0,10) else (((nbN v:Nat):Int),0)
end Tdoc
namespace Tdoc
open Go
end Tdoc
