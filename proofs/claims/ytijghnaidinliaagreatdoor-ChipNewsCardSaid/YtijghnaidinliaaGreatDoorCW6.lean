/- Part 6 of the proof: the texts C1 WW E1 Y1 E2 E3 E4 E5 E6 E7 E8 E9 E10 E11 E12 E13 E14 E15 E16 E17 E18 E19 E20 E21 E22 E23 E24 E25 G1 G2 G3 Y4 Y5 Z4 Z5 Z6 ZF ZG RB0 JA Y2 JB KI J1 JC J2 J3 J4 J5 J6 Y8 Y7 Z1 Z2 ZM Y3 Z3 ZN ZC0 ZC ZO. -/
import Derived.Test.YtijghnaidinliaaGreatDoorProg
import Derived.Test.YtijghnaidinliaaGreatDoorCW4
set_option linter.unusedVariables false
set_option linter.unusedSimpArgs false
set_option maxHeartbeats 8000000
set_option maxRecDepth 100000
namespace Tdoc
open Go Go.Proofs
def T:Tr:=(.nd (.nd (.nd (.nd (.nd (.nd (.nd .lf 2 ⟨.int .i64,1,8,[.d (.int .i64 0)]⟩ .lf) 3 ⟨.int .i64,1,8,[.d (.int .i64 0)]⟩ .lf) 4 ⟨.bool,1,1,[.d (.bool false)]⟩ (.nd .lf 5 ⟨.int .u8,1,1,[.d (.int .u8 0)]⟩ .lf)) 9 ⟨.str,1,16,[.d (.str [])]⟩ (.nd (.nd (.nd .lf 12 ⟨.int .u64,1,8,[.d (.int .u64 0)]⟩ .lf) 21 ⟨.int .i32,1,4,[.d (.int .i32 0)]⟩ .lf) 22 ⟨.slice 5,1,24,[.sl 1 [] .full]⟩ (.nd .lf 23 ⟨.slice 89,1,24,[.sl 5 [] .full]⟩ .lf))) 25 ⟨.struct [(0,1,false),(1,1,false)],2,32,[.sl 5 [] .full,.d (.int .i64 0)]⟩ (.nd (.nd (.nd (.nd .lf 27 ⟨.struct [(0,1,false),(1,1,false),(2,1,false),(3,2,true)],5,72,[.d (.int .i64 0),.d (.int .i64 0),.sl 1 [] .full,.sl 5 [] .full,.d (.int .i64 0)]⟩ .lf) 28 ⟨.slice 3,1,24,[.sl 1 [] .full]⟩ .lf) 31 ⟨.ptr,1,8,[.nilp]⟩ (.nd .lf 35 ⟨.int .i64,1,8,[.d (.int .i64 0)]⟩ .lf)) 44 ⟨.slice 101,1,24,[.sl 5 [] .full]⟩ (.nd (.nd (.nd .lf 45 ⟨.slice 103,1,24,[.sl 2 [] .full]⟩ .lf) 47 ⟨.struct [(0,1,false),(1,1,false)],2,48,[.sl 5 [] .full,.sl 2 [] .full]⟩ .lf) 48 ⟨.slice 105,1,24,[.sl 5 [] .full]⟩ (.nd .lf 50 ⟨.struct [(0,2,true),(2,1,false),(3,1,false),(4,1,false),(5,1,false),(6,1,false),(7,1,false),(8,1,false),(9,1,false),(10,1,false),(11,1,false),(12,2,true),(14,1,false),(15,1,false)],16,280,[.sl 5 [] .full,.sl 2 [] .full,.d (.str []),.sl 1 [] .full,.sl 1 [] .full,.sl 1 [] .full,.d (.int .i64 0),.d (.int .i64 0),.d (.bool false),.sl 5 [] .full,.d (.int .i64 0),.d (.int .i64 0),.sl 5 [] .full,.d (.int .i64 0),.sl 1 [] .full,.sl 1 [] .full]⟩ .lf)))) 53 ⟨.array 2 22,2,48,[.sl 1 [] .full,.sl 1 [] .full]⟩ (.nd (.nd (.nd (.nd (.nd .lf 55 ⟨.struct [(0,2,true)],2,48,[.sl 1 [] .full,.sl 1 [] .full]⟩ .lf) 57 ⟨.struct [(0,1,false),(1,1,false)],2,16,[.d (.int .i64 0),.d (.int .i64 0)]⟩ .lf) 59 ⟨.struct [(0,1,false),(1,1,false),(2,1,false),(3,1,false),(4,1,false)],5,24,[.d (.int .i64 0),.d (.bool false),.d (.bool false),.d (.bool false),.d (.int .i64 0)]⟩ (.nd .lf 61 ⟨.struct [(0,1,false),(1,1,false),(2,1,false)],3,56,[.sl 1 [] .full,.sl 1 [] .full,.d (.int .i64 0)]⟩ .lf)) 63 ⟨.struct [(0,1,false),(1,1,false)],2,32,[.d (.int .i64 0),.sl 1 [] .full]⟩ (.nd (.nd (.nd .lf 65 ⟨.struct [(0,2,true),(2,1,false),(3,1,false),(4,1,false),(5,1,false),(6,1,false),(7,1,false),(8,1,false),(9,3,true)],12,160,[.d (.int .i64 0),.sl 1 [] .full,.d (.int .i64 0),.d (.int .i64 0),.sl 1 [] .full,.d (.int .i64 0),.d (.int .i64 0),.d (.int .i64 0),.d (.int .i64 0),.sl 1 [] .full,.sl 1 [] .full,.d (.int .i64 0)]⟩ .lf) 67 ⟨.struct [(0,1,false),(1,1,false),(2,1,false),(3,1,false),(4,1,false),(5,1,false)],6,56,[.d (.str []),.d (.int .i64 0),.d (.int .i64 0),.d (.int .i64 0),.d (.int .i64 0),.d (.int .i64 0)]⟩ .lf) 69 ⟨.struct [(0,1,false),(1,1,false),(2,1,false),(3,1,false),(4,1,false),(5,1,false)],6,64,[.d (.int .i64 0),.d (.int .i64 0),.d (.int .i64 0),.d (.int .i64 0),.sl 1 [] .full,.d (.int .i64 0)]⟩ (.nd .lf 71 ⟨.struct [(0,16,true),(16,2,true),(18,1,false),(19,1,false),(20,2,true),(22,5,true),(27,1,false),(28,3,true),(31,1,false),(32,1,false),(33,12,true),(45,1,false),(46,6,true),(52,1,false),(53,1,false),(54,6,true)],60,816,[.sl 5 [] .full,.sl 2 [] .full,.d (.str []),.sl 1 [] .full,.sl 1 [] .full,.sl 1 [] .full,.d (.int .i64 0),.d (.int .i64 0),.d (.bool false),.sl 5 [] .full,.d (.int .i64 0),.d (.int .i64 0),.sl 5 [] .full,.d (.int .i64 0),.sl 1 [] .full,.sl 1 [] .full,.sl 1 [] .full,.sl 1 [] .full,.sl 1 [] .full,.d (.bool false),.d (.int .i64 0),.d (.int .i64 0),.d (.int .i64 0),.d (.bool false),.d (.bool false),.d (.bool false),.d (.int .i64 0),.d (.bool false),.sl 1 [] .full,.sl 1 [] .full,.d (.int .i64 0),.d (.int .i64 0),.d (.int .i64 0),.d (.int .i64 0),.sl 1 [] .full,.d (.int .i64 0),.d (.int .i64 0),.sl 1 [] .full,.d (.int .i64 0),.d (.int .i64 0),.d (.int .i64 0),.d (.int .i64 0),.sl 1 [] .full,.sl 1 [] .full,.d (.int .i64 0),.sl 1 [] .full,.d (.str []),.d (.int .i64 0),.d (.int .i64 0),.d (.int .i64 0),.d (.int .i64 0),.d (.int .i64 0),.sl 1 [] .full,.d (.bool false),.d (.int .i64 0),.d (.int .i64 0),.d (.int .i64 0),.d (.int .i64 0),.sl 1 [] .full,.d (.int .i64 0)]⟩ .lf))) 81 ⟨.struct [(0,1,false),(1,1,false)],2,32,[.sl 1 [] .full,.d (.int .i64 0)]⟩ (.nd (.nd (.nd (.nd .lf 85 ⟨.struct [(0,1,false),(1,1,false)],2,32,[.sl 1 [] .full,.d (.int .i64 0)]⟩ .lf) 89 ⟨.struct [(0,1,false),(1,1,false),(2,1,false),(3,1,false),(4,1,false)],5,48,[.d (.str []),.d (.int .i64 0),.d (.int .i64 0),.d (.int .i64 0),.d (.int .i64 0)]⟩ .lf) 91 ⟨.int .u64,1,8,[.d (.int .u64 0)]⟩ (.nd .lf 92 ⟨.array 2 3,2,16,[.d (.int .i64 0),.d (.int .i64 0)]⟩ .lf)) 99 ⟨.struct [(0,1,false),(1,1,false)],2,16,[.d (.int .i64 0),.d (.int .i64 0)]⟩ (.nd (.nd .lf 101 ⟨.struct [(0,1,false),(1,1,false),(2,1,false),(3,2,true)],5,56,[.d (.int .i64 0),.d (.int .i64 0),.sl 1 [] .full,.d (.int .i64 0),.d (.int .i64 0)]⟩ .lf) 103 ⟨.struct [(0,1,false),(1,1,false)],2,48,[.sl 1 [] .full,.sl 5 [] .full]⟩ (.nd .lf 105 ⟨.struct [(0,1,false),(1,1,false),(2,1,false),(3,1,false),(4,1,false)],5,40,[.d (.int .i64 0),.d (.int .i64 0),.d (.int .i64 0),.d (.int .i64 0),.d (.int .i64 0)]⟩ .lf))))) 119 ⟨.ptr,1,8,[.nilp]⟩ (.nd (.nd (.nd (.nd (.nd (.nd .lf 121 ⟨.struct [(0,60,true),(60,5,true),(65,1,false),(66,1,false),(67,1,false),(68,1,false),(69,1,false)],70,936,[.sl 5 [] .full,.sl 2 [] .full,.d (.str []),.sl 1 [] .full,.sl 1 [] .full,.sl 1 [] .full,.d (.int .i64 0),.d (.int .i64 0),.d (.bool false),.sl 5 [] .full,.d (.int .i64 0),.d (.int .i64 0),.sl 5 [] .full,.d (.int .i64 0),.sl 1 [] .full,.sl 1 [] .full,.sl 1 [] .full,.sl 1 [] .full,.sl 1 [] .full,.d (.bool false),.d (.int .i64 0),.d (.int .i64 0),.d (.int .i64 0),.d (.bool false),.d (.bool false),.d (.bool false),.d (.int .i64 0),.d (.bool false),.sl 1 [] .full,.sl 1 [] .full,.d (.int .i64 0),.d (.int .i64 0),.d (.int .i64 0),.d (.int .i64 0),.sl 1 [] .full,.d (.int .i64 0),.d (.int .i64 0),.sl 1 [] .full,.d (.int .i64 0),.d (.int .i64 0),.d (.int .i64 0),.d (.int .i64 0),.sl 1 [] .full,.sl 1 [] .full,.d (.int .i64 0),.sl 1 [] .full,.d (.str []),.d (.int .i64 0),.d (.int .i64 0),.d (.int .i64 0),.d (.int .i64 0),.d (.int .i64 0),.sl 1 [] .full,.d (.bool false),.d (.int .i64 0),.d (.int .i64 0),.d (.int .i64 0),.d (.int .i64 0),.sl 1 [] .full,.d (.int .i64 0),.d (.int .i64 0),.d (.int .i64 0),.sl 1 [] .full,.sl 5 [] .full,.d (.int .i64 0),.d (.int .i64 0),.d (.int .i64 0),.d (.bool false),.d (.bool false),.sl 1 [] .full]⟩ .lf) 126 ⟨.slice 22,1,24,[.sl 1 [] .full]⟩ .lf) 128 ⟨.ptr,1,8,[.nilp]⟩ (.nd .lf 130 ⟨.struct [(0,1,false),(1,1,false),(2,1,false)],3,40,[.sl 1 [] .full,.d (.int .i64 0),.d (.bool false)]⟩ .lf)) 142 ⟨.ptr,1,8,[.nilp]⟩ (.nd (.nd (.nd .lf 143 ⟨.slice 142,1,24,[.sl 1 [] .full]⟩ .lf) 154 ⟨.struct [(0,1,false),(1,1,false)],2,32,[.d (.int .i64 0),.sl 1 [] .full]⟩ .lf) 182 ⟨.struct [(0,1,false),(1,1,false),(2,1,false),(3,1,false)],4,32,[.d (.int .i64 0),.d (.int .i64 0),.d (.int .i64 0),.d (.bool false)]⟩ (.nd .lf 183 ⟨.slice 182,1,24,[.sl 4 [] .full]⟩ .lf))) 184 ⟨.slice 201,1,24,[.sl 3 [] .full]⟩ (.nd (.nd (.nd (.nd .lf 188 ⟨.struct [(0,3,true),(3,1,false)],4,80,[.sl 1 [] .full,.sl 1 [] .full,.d (.int .i64 0),.sl 1 [] .full]⟩ .lf) 201 ⟨.struct [(0,1,false),(1,1,false),(2,1,false)],3,56,[.d (.int .i64 0),.sl 1 [] .full,.sl 3 [] .full]⟩ .lf) 229 ⟨.struct [(0,1,false),(1,1,false)],2,16,[.d (.int .i64 0),.d (.int .i64 0)]⟩ (.nd .lf 231 ⟨.struct [(0,1,false),(1,1,false),(2,1,false),(3,1,false),(4,1,false),(5,1,false),(6,1,false),(7,2,true)],9,88,[.d (.str []),.d (.str []),.d (.int .i64 0),.d (.int .i64 0),.d (.int .i64 0),.d (.int .i64 0),.d (.int .i64 0),.d (.int .i64 0),.d (.int .i64 0)]⟩ .lf)) 240 ⟨.struct [(0,1,false),(1,1,false),(2,1,false),(3,1,false)],4,48,[.sl 1 [] .full,.d (.int .i64 0),.d (.bool false),.d (.int .i64 0)]⟩ (.nd (.nd (.nd .lf 246 ⟨.ptr,1,8,[.nilp]⟩ .lf) 249 ⟨.ptr,1,8,[.nilp]⟩ .lf) 252 ⟨.fn,1,8,[.nilf]⟩ (.nd .lf 256 ⟨.int .u32,1,4,[.d (.int .u32 0)]⟩ .lf)))) 258 ⟨.int .u64,1,8,[.d (.int .u64 0)]⟩ (.nd (.nd (.nd (.nd (.nd .lf 291 ⟨.slice 352,1,24,[.sl 3 [] .full]⟩ .lf) 298 ⟨.ptr,1,8,[.nilp]⟩ .lf) 301 ⟨.ptr,1,8,[.nilp]⟩ (.nd .lf 303 ⟨.array 16 5,16,16,[.d (.int .u8 0),.d (.int .u8 0),.d (.int .u8 0),.d (.int .u8 0),.d (.int .u8 0),.d (.int .u8 0),.d (.int .u8 0),.d (.int .u8 0),.d (.int .u8 0),.d (.int .u8 0),.d (.int .u8 0),.d (.int .u8 0),.d (.int .u8 0),.d (.int .u8 0),.d (.int .u8 0),.d (.int .u8 0)]⟩ .lf)) 304 ⟨.array 16 5,16,16,[.d (.int .u8 0),.d (.int .u8 0),.d (.int .u8 0),.d (.int .u8 0),.d (.int .u8 0),.d (.int .u8 0),.d (.int .u8 0),.d (.int .u8 0),.d (.int .u8 0),.d (.int .u8 0),.d (.int .u8 0),.d (.int .u8 0),.d (.int .u8 0),.d (.int .u8 0),.d (.int .u8 0),.d (.int .u8 0)]⟩ (.nd (.nd (.nd .lf 311 ⟨.array 4 5,4,4,[.d (.int .u8 0),.d (.int .u8 0),.d (.int .u8 0),.d (.int .u8 0)]⟩ .lf) 314 ⟨.ptr,1,8,[.nilp]⟩ .lf) 327 ⟨.slice 256,1,24,[.sl 1 [] .full]⟩ (.nd .lf 338 ⟨.array 4 337,8,64,[.d (.int .i64 0),.d (.int .i64 0),.d (.int .i64 0),.d (.int .i64 0),.d (.int .i64 0),.d (.int .i64 0),.d (.int .i64 0),.d (.int .i64 0)]⟩ .lf))) 343 ⟨.fn,1,8,[.nilf]⟩ (.nd (.nd (.nd (.nd .lf 344 ⟨.array 4 343,4,32,[.nilf,.nilf,.nilf,.nilf]⟩ .lf) 346 ⟨.ptr,1,8,[.nilp]⟩ .lf) 352 ⟨.struct [(0,1,false),(1,1,false),(2,1,false)],3,40,[.d (.int .i64 0),.d (.int .i64 0),.sl 1 [] .full]⟩ (.nd .lf 358 ⟨.ptr,1,8,[.nilp]⟩ .lf)) 362 ⟨.array 64 256,64,256,[.d (.int .u32 0),.d (.int .u32 0),.d (.int .u32 0),.d (.int .u32 0),.d (.int .u32 0),.d (.int .u32 0),.d (.int .u32 0),.d (.int .u32 0),.d (.int .u32 0),.d (.int .u32 0),.d (.int .u32 0),.d (.int .u32 0),.d (.int .u32 0),.d (.int .u32 0),.d (.int .u32 0),.d (.int .u32 0),.d (.int .u32 0),.d (.int .u32 0),.d (.int .u32 0),.d (.int .u32 0),.d (.int .u32 0),.d (.int .u32 0),.d (.int .u32 0),.d (.int .u32 0),.d (.int .u32 0),.d (.int .u32 0),.d (.int .u32 0),.d (.int .u32 0),.d (.int .u32 0),.d (.int .u32 0),.d (.int .u32 0),.d (.int .u32 0),.d (.int .u32 0),.d (.int .u32 0),.d (.int .u32 0),.d (.int .u32 0),.d (.int .u32 0),.d (.int .u32 0),.d (.int .u32 0),.d (.int .u32 0),.d (.int .u32 0),.d (.int .u32 0),.d (.int .u32 0),.d (.int .u32 0),.d (.int .u32 0),.d (.int .u32 0),.d (.int .u32 0),.d (.int .u32 0),.d (.int .u32 0),.d (.int .u32 0),.d (.int .u32 0),.d (.int .u32 0),.d (.int .u32 0),.d (.int .u32 0),.d (.int .u32 0),.d (.int .u32 0),.d (.int .u32 0),.d (.int .u32 0),.d (.int .u32 0),.d (.int .u32 0),.d (.int .u32 0),.d (.int .u32 0),.d (.int .u32 0),.d (.int .u32 0)]⟩ (.nd (.nd .lf 364 ⟨.array 8 256,8,32,[.d (.int .u32 0),.d (.int .u32 0),.d (.int .u32 0),.d (.int .u32 0),.d (.int .u32 0),.d (.int .u32 0),.d (.int .u32 0),.d (.int .u32 0)]⟩ .lf) 378 ⟨.array 0 16,0,0,[]⟩ (.nd .lf 385 ⟨.ptr,1,8,[.nilp]⟩ .lf))))))
theorem hT:TOk Tryz.prog T:=⟨by kernel_rfl⟩
theorem mixed:Tryz.prog.follows .mixedOrders=true:=by kernel_rfl
structure Box (p:Prop):Prop where
 out:p
theorem ww {g n:Prop} (k:n) (h:Box n→g:=by intro hk;(repeat (first | refine wk hT rfl rfl ?_ | refine wd hT rfl rfl rfl ?_ | refine wz hT rfl ?_ | refine qGu ?_ | refine qBm ?_ | refine wh hT rfl rfl rfl rfl ?_ | refine wg hT rfl rfl rfl rfl rfl ?_ | refine qAl ?_ | refine qAh ?_ | refine wx mixed ?_ | refine qLh ?_ | refine qFz ?_ | refine qGv ?_ | refine qPj ?_));exact hk.out):g:=h ⟨k⟩
theorem wwn {g n:Prop} (k:n) (h:Box n→g:=by intro hk;(repeat (first | refine wk hT rfl rfl ?_ | refine wd hT rfl rfl rfl ?_ | refine wz hT rfl ?_ | refine qGu ?_ | refine qBm ?_ | refine wh hT rfl rfl rfl rfl ?_ | refine wg hT rfl rfl rfl rfl rfl ?_ | refine qAl ?_ | refine qAh ?_ | refine qLh ?_ | refine qFz ?_ | refine qGv ?_ | refine qPj ?_));exact hk.out):g:=h ⟨k⟩
theorem wwg {g n:Prop} (k:n) (h:Box n→g:=by intro hk;(repeat (first | refine qLg hT rfl rfl rfl rfl (by first | exact List.mem_cons_self | exact sm) rfl ?_ | refine qEw hT (fun _=>rfl) rfl rfl (by first | exact True.intro | omega | exact sd) ?_ | refine qTs hT rfl rfl rfl (by first | exact List.mem_cons_self | exact sm) rfl ?_ | refine qGu ?_));exact hk.out):g:=h ⟨k⟩
theorem wws {g n:Prop} (k:n) (h:Box n→g:=by intro hk;(repeat (first | refine wk hT rfl rfl ?_ | refine wd hT rfl rfl rfl ?_ | refine wz hT rfl ?_ | refine qGu ?_ | refine qBm ?_ | refine wh hT rfl rfl rfl rfl ?_ | refine wg hT rfl rfl rfl rfl rfl ?_));exact hk.out):g:=h ⟨k⟩
theorem wwe {g n:Prop} (k:n) (h:Box n→g:=by intro hk;(repeat (first | refine qGv ?_ | refine qFz ?_));exact hk.out):g:=h ⟨k⟩
theorem wwr {g:Prop} (h:g:=by (first | exact rx ⟨rfl,rfl⟩ | exact rxN ⟨rfl,rfl⟩ | (refine rq ⟨rfl,rfl⟩ rfl ?_;repeat (first | exact trivial | exact AV.le.refl _ | exact AV.le.dat | exact AV.le.nils | exact AV.le.nilsf | exact AV.le.any _ | exact ObLe.refl _ | exact ⟨rfl,rfl⟩ | refine AV.le.tup ?_ | refine AV.le.agg ?_ | exact li | exact lb | exact ls | exact lk | exact ld | exact lz | refine ⟨?_,?_⟩)) | (refine rqN ⟨rfl,rfl⟩ rfl ?_;repeat (first | exact trivial | exact AV.le.refl _ | exact AV.le.dat | exact AV.le.nils | exact AV.le.nilsf | exact AV.le.any _ | exact ObLe.refl _ | exact ⟨rfl,rfl⟩ | refine AV.le.tup ?_ | refine AV.le.agg ?_ | exact li | exact lb | exact ls | exact lk | exact ld | exact lz | refine ⟨?_,?_⟩)))):g:=h
theorem wwc {A g n:Prop} (S:A) (k:n) (h:A→Box n→g:=by intro S hk;(first | refine qAe (qFt rfl rfl (S) rfl rfl rfl) rfl ?_ | refine qBh (qFt rfl rfl (S) rfl rfl rfl) rfl rfl ?_ | refine qAe (qKt rfl rfl (S) rfl (by repeat (first | exact trivial | exact AV.le.refl _ | exact AV.le.dat | exact AV.le.nils | exact AV.le.nilsf | exact AV.le.any _ | exact ObLe.refl _ | exact ⟨rfl,rfl⟩ | refine AV.le.tup ?_ | refine AV.le.agg ?_ | exact li | exact lb | exact ls | exact lk | exact ld | exact lz | refine ⟨?_,?_⟩)) rfl rfl) rfl ?_ | refine qBh (qKt rfl rfl (S) rfl (by repeat (first | exact trivial | exact AV.le.refl _ | exact AV.le.dat | exact AV.le.nils | exact AV.le.nilsf | exact AV.le.any _ | exact ObLe.refl _ | exact ⟨rfl,rfl⟩ | refine AV.le.tup ?_ | refine AV.le.agg ?_ | exact li | exact lb | exact ls | exact lk | exact ld | exact lz | refine ⟨?_,?_⟩)) rfl rfl) rfl rfl ?_);exact hk.out):g:=h S ⟨k⟩
theorem wwx {A g n:Prop} (S:A) (k:n) (h:A→Box n→g:=by intro S hk;(refine qJa (callX0 rfl rfl (S) rfl (by repeat (first | exact trivial | exact AV.le.refl _ | exact AV.le.dat | exact AV.le.nils | exact AV.le.nilsf | exact AV.le.any _ | exact ObLe.refl _ | exact ⟨rfl,rfl⟩ | refine AV.le.tup ?_ | refine AV.le.agg ?_ | exact li | exact lb | exact ls | exact lk | exact ld | exact lz | refine ⟨?_,?_⟩)) rfl (fun _=>rfl)) rfl ?_);exact hk.out):g:=h S ⟨k⟩
theorem wwgc {A g n:Prop} (S:A) (k:n) (h:A→Box n→g:=by intro S hk;(first | refine qEc rfl rfl rfl (fun hg=>⟨(sg (C:=True) hg).1,qFt rfl rfl (S) rfl rfl rfl⟩) ?_ | refine qCw rfl rfl rfl rfl (fun hg=>⟨(sg (C:=True) hg).1,qFt rfl rfl (S) rfl rfl rfl⟩) ?_);exact hk.out):g:=h S ⟨k⟩
theorem wwdc {A g n:Prop} (S:A) (k:n) (h:A→Box n→g:=by intro S hk;(first | refine qAm (os:=[]) (fun k hk1 hk2=>qFt rfl rfl (S) rfl rfl rfl) rfl ?_ | refine qAm (os:=[]) (fun k hk1 hk2=>qKt rfl rfl (S) rfl (by repeat (first | exact trivial | exact AV.le.refl _ | exact AV.le.dat | exact AV.le.nils | exact AV.le.nilsf | exact AV.le.any _ | exact ObLe.refl _ | exact ⟨rfl,rfl⟩ | refine AV.le.tup ?_ | refine AV.le.agg ?_ | exact li | exact lb | exact ls | exact lk | exact ld | exact lz | refine ⟨?_,?_⟩)) rfl rfl) rfl ?_);exact hk.out):g:=h S ⟨k⟩
theorem wwi {A g n:Prop} (S:A) (k:n) (h:A→Box n→g:=by intro S hk;(first | refine qAe (qAd (indexAddr_ok hT rfl rfl rfl rfl (by omega) (S))) rfl ?_ | refine qBh (qAd (indexAddr_ok hT rfl rfl rfl rfl (by omega) (S))) rfl rfl ?_);exact hk.out):g:=h S ⟨k⟩
theorem wwgi {A g n:Prop} (S:A) (k:n) (h:A→Box n→g:=by intro S hk;(first | refine qEc rfl rfl rfl (fun hg=>⟨(sg (C:=True) hg).1,qAd (indexAddr_ok hT rfl rfl rfl rfl (by omega) (S))⟩) ?_ | refine qCw rfl rfl rfl rfl (fun hg=>⟨(sg (C:=True) hg).1,qAd (indexAddr_ok hT rfl rfl rfl rfl (by omega) (S))⟩) ?_);exact hk.out):g:=h S ⟨k⟩
theorem wwk {A g n:Prop} (S:A) (k:n) (h:A→Box n→g:=by intro S hk;(repeat (first | refine qCw (v:=.d (.bool false)) rfl rfl rfl rfl (fun hg=>absurd hg (by rw [S];simp [gval])) ?_ | refine qEc (v:=.d (.bool false)) rfl rfl rfl (fun hg=>absurd hg (by rw [S];simp [gval])) ?_ | refine wk hT rfl rfl ?_ | refine wd hT rfl rfl rfl ?_ | refine wz hT rfl ?_ | refine qGu ?_ | refine qBm ?_ | refine wh hT rfl rfl rfl rfl ?_ | refine wg hT rfl rfl rfl rfl rfl ?_ | refine qAl ?_ | refine qAh ?_ | refine wx mixed ?_ | refine qLh ?_ | refine qFz ?_ | refine qGv ?_ | refine qPj ?_));exact hk.out):g:=h S ⟨k⟩
def qAg (s:List UInt8):List (List Dat):=s.map fun b=>[.int .u8 (b.toNat:Int)]
theorem encB_length (s:List UInt8):(qAg s).length=s.length:=by simp [qAg]
theorem encB_append (a b:List UInt8):qAg (a++b)=qAg a++qAg b:=by simp [qAg]
theorem encB_at {s:List UInt8} {i:Nat} (h:i < s.length):(qAg s)[i]?=some [.int .u8 (s[i].toNat:Int)]:=by simp [qAg,h]
theorem encB_take (s:List UInt8) (i:Nat):(qAg s).take i=qAg (s.take i):=by simp [qAg,List.map_take]
theorem encB_drop (s:List UInt8) (i:Nat):(qAg s).drop i=qAg (s.drop i):=by simp [qAg,List.map_drop]
def bI (c:UInt8):Int:=(c.toNat:Int)
def qUr (c:UInt8):Bool:=decide (65≤bI c∧bI c≤90)
theorem lowL_of {k:Nat}:∀ {l:List AV},(∀ c,c∈l→low k c=true)→qCk k l=true
 | [],_=>rfl
 | a::l,h=>by simp only [qCk,Bool.and_eq_true];exact ⟨h a (by simp),lowL_of fun c hc=>h c (by simp [hc])⟩
theorem byteAV_length (s:List UInt8):(qAx s).length=s.length:=by simp [qAx]
theorem byteAV_low {k:Nat} {s:List UInt8} {c:AV} (h:c∈qAx s):low k c=true:=by
 simp only [qAx,List.mem_map] at h
 obtain ⟨b,_,rfl⟩:=h;rfl
theorem lowL_bytes (k:Nat) (s:List UInt8):qCk k (qAx s)=true:=lowL_of fun c hc=>byteAV_low hc
theorem flatAV_encB (s:List UInt8):qAu (qAg s)=qAx s:=by
 induction s with
 | nil=>rfl
 | cons a s ih =>
  simp only [qAu,qAg,qAx,List.map_cons,List.flatten_cons,List.map_append] at ih ⊢
  rw [ih];rfl
theorem qDb (s:List UInt8):RowDat (qAx s) 0 1 (qAg s):=by
 refine ⟨fun e he=>?_,fun i e j d he hd=>?_⟩
 ·simp only [qAg,List.mem_map] at he
  obtain ⟨b,_,rfl⟩:=he;rfl
 ·simp only [qAg,List.getElem?_map,Option.map_eq_some_iff] at he
  obtain ⟨b,hb,rfl⟩:=he
  cases j with
  | zero=>simp at hd;subst hd;exact ⟨.d (.int .u8 (b.toNat:Int)),by simp [qAx,hb],rfl⟩
  | succ j=>simp at hd
theorem toNat_ofNat {n:Nat} (h:n < 256):(UInt8.ofNat n).toNat=n:=by simp;omega
def qDs (b:List UInt8) (i:Nat):Nat:=(b.getD i 0).toNat
theorem encB_byte {b:List UInt8} {i:Nat} (h:i < b.length):(qAg b)[i]?=some [.int .u8 (qDs b i:Int)]:=by
 rw [encB_at h];unfold qDs;rw [List.getD_eq_getElem?_getD,List.getElem?_eq_getElem h];rfl
set_option maxRecDepth 100000 in
theorem qIy (es:List (List Dat)) (hl:es.length≤2000000) :
  Spec Tryz.prog 36 [.d (.sl 1 es)] [] (fun r h'=>r=.d (.sl 1 es)∧h'=[]):=by
 refine qAb hT Tryz.func36 rfl rfl rfl rfl ?_
 intro E hE
 refine ww ?_
 refine qCv (eqNil_ok hT (fun _=>rfl) rfl rfl rfl) rfl ?_
 rintro v h' ⟨rfl,b,rfl,hb⟩
 refine ww ?_
 refine qAa rfl (fun h1=>?_) (fun h1=>?_)
 ·obtain rfl:=hb h1
  refine ww ?_
  exact qBf rfl AV.le.nils rfl rfl rfl rfl ⟨rfl,rfl⟩
 ·refine ww ?_
  refine qAe (qBe (es:=[]) hT rfl rfl rfl (.inl rfl) rfl (by show (([]:List (List Dat)).length+es.length)*(1+1)≤140737488355328;simp;omega)) rfl ?_
  refine ww ?_
  exact qBf rfl (.refl _) rfl rfl rfl rfl ⟨rfl,rfl⟩
def qNf (l:List Int):List (List Dat):=l.map fun n=>[.int .i64 n]
theorem encI_length (l:List Int):(qNf l).length=l.length:=by simp [qNf]
theorem encI_at {l:List Int} {i:Nat} (h:i < l.length):(qNf l)[((i:Int)).toNat]?=some [.int .i64 l[i]]:=by simp [qNf,h]
theorem byteCells_encB (v:List UInt8):qMm (qAg v):=fun e he=>by
 unfold qAg at he
 obtain ⟨x,_,rfl⟩:=List.mem_map.1 he
 exact ⟨_,rfl⟩
theorem bytesOf_encB (v:List UInt8):qKu (qAg v)=v:=by
 unfold qKu qAg
 rw [List.map_map]
 conv=>rhs;rw [← List.map_id v]
 apply List.map_congr_left
 intro x _
 show UInt8.ofNat ((x.toNat:Int)).toNat=x
 simp
set_option maxHeartbeats 4000000 in
set_option maxRecDepth 100000 in
theorem qBi (a:List UInt8) (ha:a.length≤1000000000):Spec Tryz.prog 15 [.d (.sl 1 (qAg a)),.d (.sl 1 (qAg a))] [] (fun r h'=>r=.d (.bool true)∧h'=[]):=by
 have hal:=encB_length a
 refine qAb hT Tryz.func15 rfl rfl rfl rfl ?_
 intro E hE
 refine ww ?_
 refine qAa rfl (fun h1=>?_) (fun h1=>?_)
 ·exact absurd h1 (by simp)
 ·refine ww ?_
  refine qAw (ι:=Nat) (fun i=>[(0,.d (.sl 1 (qAg a))),(1,.d (.sl 1 (qAg a))),(5,.I (i:Int))]) (fun _=>[]) (fun i=>i≤a.length) (fun i=>a.length-i) 0 (by omega) yf (HLe.refl _) ?_
  intro i hi
  have hwr:IntKind.i64.wrap ((i:Int)+1)=((i+1:Nat):Int):=by rw [qAj (by omega)];simp
  refine ww ?_
  refine qAa rfl (fun h2=>?_) (fun h2=>?_)
  ·have h2':i < a.length:=by rw [hal] at h2;simpa using h2
   have hel:(qAg a)[((i:Int)).toNat]?=some [.int .u8 (qDs a i:Int)]:=encB_byte h2'
   refine ww ?_
   refine qBh (qAd (indexAddr_ok hT rfl rfl rfl rfl (by omega) hel)) rfl rfl ?_
   refine ww ?_
   refine qBh (qAd (indexAddr_ok hT rfl rfl rfl rfl (by omega) hel)) rfl rfl ?_
   refine ww ?_
   refine qAa rfl (fun h3=>?_) (fun h3=>?_)
   ·exact absurd h3 (by simp)
   ·refine ww ?_
    exact ⟨i+1,by omega,by omega,⟨.refl _,.refl _,AV.le.eq (congrArg (fun z=>AV.d (.int .i64 z)) hwr),trivial⟩,HLe.refl _⟩
  ·refine ww ?_
   exact qBf rfl (.refl _) rfl rfl rfl rfl ⟨rfl,rfl⟩
def pG:Nat:=2147483579
def qLi:Nat→Nat→Nat→Nat→Nat
 | 0,x,k,out=>out
 | m+1,x,k,out=>if k=0 then out else qLi m (x*x % pG) (k / 2) (if k % 2=1 then out*x % pG else out)
theorem mulP_lt {a b:Nat} (ha:a < pG) (hb:b < pG):a*b≤4611686018427387904:=by
 have:=Nat.mul_le_mul (Nat.le_of_lt ha) (Nat.le_of_lt hb)
 exact Nat.le_trans this (by decide)
set_option maxHeartbeats 4000000 in
set_option maxRecDepth 100000 in
theorem qPf (x k m:Nat) (hx:x < pG) (hk:k≤9223372036854775807) (hm:k < 2 ^ m) :
  Spec Tryz.prog 115 [.I (x:Int),.I (k:Int)] [] (fun r h'=>r=.I (qLi m x k 1:Int)∧h'=[]):=by
 refine qAb hT Tryz.func115 rfl rfl rfl rfl ?_
 intro E hE
 generalize hfin:qLi m x k 1=fin
 refine ww ?_
 refine qAw (ι:=Nat×Nat×Nat×Nat) (fun y=>[(0,.I (y.1:Int)),(1,.I (y.2.1:Int)),(5,.I (y.2.2.1:Int))]) (fun _=>[])
  (fun y=>y.1 < pG∧y.2.1≤9223372036854775807∧y.2.2.1 < pG∧y.2.1 < 2 ^ y.2.2.2∧qLi y.2.2.2 y.1 y.2.1 y.2.2.1=fin) (fun y=>y.2.1) (x,k,1,m) ⟨hx,hk,show 1 < pG by decide,hm,hfin⟩ yf (HLe.refl _) ?_
 rintro ⟨x,k,out,m⟩ ⟨hx,hk,ho,hm,hg⟩
 simp only at hx hk ho hm hg ⊢
 refine ww ?_
 refine qAa rfl (fun h1=>?_) (fun h1=>?_)
 ·have h1':0 < k:=by simpa using h1
  obtain ⟨m,rfl⟩:∃ m',m=m'+1:=⟨m-1,by cases m with | zero=>simp at hm;omega | succ m=>simp⟩
  rw [qLi,if_neg (by omega)] at hg
  refine ww ?_
  have hxx:=mulP_lt hx hx
  have hox:=mulP_lt ho hx
  have hm1:IntKind.i64.wrap ((x:Int)*(x:Int))=((x*x:Nat):Int):=by rw [← Int.natCast_mul];exact qAj (by omega)
  have hm2:IntKind.i64.wrap ((out:Int)*(x:Int))=((out*x:Nat):Int):=by rw [← Int.natCast_mul];exact qAj (by omega)
  have ht1:Int.tmod (IntKind.i64.wrap ((x:Int)*(x:Int))) 2147483579=((x*x % pG:Nat):Int):=by rw [hm1];rfl
  have ht2:Int.tmod (IntKind.i64.wrap ((out:Int)*(x:Int))) 2147483579=((out*x % pG:Nat):Int):=by rw [hm2];rfl
  have htk:Int.tmod (k:Int) 2=((k % 2:Nat):Int):=rfl
  have hdk:Int.tdiv (k:Int) 2=((k / 2:Nat):Int):=rfl
  have hwd:IntKind.i64.wrap (Int.tdiv (k:Int) 2)=((k / 2:Nat):Int):=by rw [hdk];exact qAj (by omega)
  have hl1:x*x % pG < pG:=Nat.mod_lt _ (by decide)
  have hl2:out*x % pG < pG:=Nat.mod_lt _ (by decide)
  have hk2:k / 2 < 2 ^ m:=by rw [Nat.pow_succ] at hm;omega
  refine qAa rfl (fun h2=>?_) (fun h2=>?_)
  ·have h2':k % 2=1:=by rw [htk] at h2;simp at h2;omega
   rw [if_pos h2'] at hg
   refine ww ?_
   exact ⟨(x*x % pG,k / 2,out*x % pG,m),⟨hl1,by show k / 2≤_;omega,hl2,hk2,hg⟩,by show k / 2 < k;omega,⟨AV.le.eq (congrArg (fun z=>AV.d (.int .i64 z)) ht1),AV.le.eq (congrArg (fun z=>AV.d (.int .i64 z)) hwd),AV.le.eq (congrArg (fun z=>AV.d (.int .i64 z)) ht2),trivial⟩,HLe.refl _⟩
  ·have h2':¬ k % 2=1:=by rw [htk] at h2;simp at h2;omega
   rw [if_neg h2'] at hg
   refine ww ?_
   exact ⟨(x*x % pG,k / 2,out,m),⟨hl1,by show k / 2≤_;omega,ho,hk2,hg⟩,by show k / 2 < k;omega,⟨AV.le.eq (congrArg (fun z=>AV.d (.int .i64 z)) ht1),AV.le.eq (congrArg (fun z=>AV.d (.int .i64 z)) hwd),.refl _,trivial⟩,HLe.refl _⟩
 ·have h1':k=0:=by simp at h1;omega
  subst h1'
  have hg':out=fin:=by rw [← hg];cases m <;> simp [qLi]
  subst hg'
  refine ww ?_
  exact qBf rfl (.refl _) rfl rfl rfl rfl ⟨rfl,rfl⟩
set_option maxHeartbeats 4000000 in
set_option maxRecDepth 100000 in
theorem qRd:Spec Tryz.prog 213 [.d (.int .u64 1073741789)] [] (fun r h'=>r=.I 30∧h'=[]):=by
 refine qAb hT Tryz.func213 rfl rfl rfl rfl ?_
 intro E hE
 refine ww ?_
 refine qAa rfl (fun h1=>?_) (fun h1=>?_)
 ·exact absurd h1 (by decide)
 ·refine ww ?_
  refine qAa rfl (fun h2=>?_) (fun h2=>?_)
  ·refine ww ?_
   refine qAa rfl (fun h3=>?_) (fun h3=>?_)
   ·refine ww ?_
    refine qBs hT rfl rfl (by decide) ?_
    refine ww ?_
    exact qBf (r:=.I 30) rfl (AV.le.eq (by rfl)) rfl rfl rfl rfl ⟨rfl,rfl⟩
   ·exact absurd h3 (by decide)
  ·exact absurd h2 (by decide)
set_option maxHeartbeats 4000000 in
set_option maxRecDepth 100000 in
theorem qVl:Spec Tryz.prog 169 [.d (.int .u64 1073741789)] [] (fun r h'=>r=.I 30∧h'=[]):=by
 refine qAb hT Tryz.func169 rfl rfl rfl rfl ?_
 intro E hE
 refine ww ?_
 refine qAa rfl (fun h1=>?_) (fun h1=>?_)
 ·exact absurd h1 (by decide)
 ·refine ww ?_
  refine qAe (qFt rfl rfl qRd rfl rfl rfl) rfl ?_
  refine ww ?_
  exact qBf rfl (.refl _) rfl rfl rfl rfl ⟨rfl,rfl⟩
theorem qSv {x n:Int} (h:1≤n):(if x.tmod n < 0 then x.tmod n+n else x.tmod n)=x % n:=by
 have hb1:=Int.tmod_lt_of_pos x (b:=n) (by omega)
 have hb2:(-x).tmod n < n:=Int.tmod_lt_of_pos (-x) (b:=n) (by omega)
 rw [Int.neg_tmod] at hb2
 have h2:=Int.mul_tdiv_add_tmod x n
 have h3:x % n=(x.tmod n+n*x.tdiv n) % n:=by rw [Int.add_comm,h2]
 rw [h3,Int.add_mul_emod_self_left]
 split
 ·rw [← Int.add_emod_right,Int.emod_eq_of_lt (by omega) (by omega)]
 ·rw [Int.emod_eq_of_lt (by omega) (by omega)]
theorem qVk (x n:Int) (h1:1≤n) (hn:n≤4611686018427387904):Spec Tryz.prog 62 [.I x,.I n] [] (fun r h'=>r=.I (x % n)∧h'=[]):=by
 have hb1:=Int.tmod_lt_of_pos x (b:=n) (by omega)
 have hb2:(-x).tmod n < n:=Int.tmod_lt_of_pos (-x) (b:=n) (by omega)
 rw [Int.neg_tmod] at hb2
 have he:=qSv (x:=x) h1
 have hne:n≠0:=by omega
 refine qAb hT Tryz.func62 rfl rfl rfl rfl ?_;intro E hE
 refine ww ?_
 refine qAa rfl (fun h2=>?_) (fun h2=>?_)
 ·have h2':x.tmod n < 0:=by simpa using h2
  rw [if_pos h2'] at he
  refine ww ?_
  exact wwr
 ·have h2':¬ x.tmod n < 0:=by simpa using h2
  rw [if_neg h2'] at he
  refine ww ?_
  exact wwr
theorem qRc (l:List Int):Spec Tryz.prog 5 [.d (.sl 1 (qNf l))] [] (fun r h'=>r=.d (.bool (decide (l.length≤400)))∧h'=[]):=by
 have hl:=encI_length l
 generalize qNf l=es at hl
 refine qAb hT Tryz.func5 rfl rfl rfl rfl ?_;intro E hE
 refine ww ?_
 exact qCy ⟨rfl,rfl⟩ rfl (.bool (by rw [hl];exact decide_eq_decide.2 (by omega))) rfl rfl rfl rfl
def qAk (l:List Int) (a:Nat):List AV:=[.d (.sl 1 (qNf l)),.d (.int .i64 (a:Int))]
theorem qMt (l:List Int) (hl:l.length≤1000000):Spec Tryz.prog 7 [.d (.sl 1 (qNf l))] [.room] (fun r h'=>r=.ptr 0 0∧h'=[.row (qAk l 0)]):=by
 unfold qAk
 generalize qNf l=es
 refine qAb hT Tryz.func7 rfl rfl rfl rfl ?_;intro E hE
 refine qAl (qAh (qBs hT rfl rfl trivial (qBm ?_)))
 refine qAl (qAh (qBs hT rfl rfl trivial (qBs hT rfl rfl trivial ?_)))
 refine qAe (boxAt_ok (i0:=0) rfl rfl rfl) rfl ?_
 refine ww ?_
 exact wwr
theorem qRl (n:Nat):(List.replicate n [AV.d (.int .u8 0)]).flatten=qAx (List.replicate n 0):=by
 induction n with
 | zero=>rfl
 | succ n ih=>rw [List.replicate_succ,List.flatten_cons,ih];rfl
def qG:Nat:=1073741789
theorem qG_div:∀ {i:Nat},i < 30→qG / 2 ^ i≠0:=by
 have h:∀ i,i∈List.range 30→qG / 2 ^ i≠0:=by decide
 exact fun {i} hi=>h i (List.mem_range.2 hi)
theorem qPu (x:Nat) (hx:x < pG):Spec Tryz.prog 143 [.I (x:Int),.I 1073741789] [] (fun r h'=>r=.I (qLi 30 x qG 1:Int)∧h'=[]):=by
 have hlen:Spec Tryz.prog 169 [.d (.int .u64 (IntKind.u64.wrap 1073741789))] [] (fun r h'=>r=.I 30∧h'=[]):=by
  rw [show IntKind.u64.wrap 1073741789=1073741789 by decide];exact qVl
 generalize hfin:qLi 30 x qG 1=fin
 refine qAb hT Tryz.func143 rfl rfl rfl rfl ?_;intro E hE
 refine ww ?_
 refine wwc hlen ?_
 refine ww ?_
 refine qAw (ι:=Nat×Nat×Nat) (fun y=>[(0,.I (y.2.1:Int)),(1,.I 1073741789),(5,.I (y.2.2:Int)),(9,.I 30),(10,.I (y.1:Int))]) (fun _=>[])
  (fun y=>y.1≤30∧y.2.1 < pG∧y.2.2 < pG∧qLi (30-y.1) y.2.1 (qG / 2 ^ y.1) y.2.2=fin) (fun y=>30-y.1) (0,x,1) ⟨by omega,hx,show 1 < pG by decide,by simpa using hfin⟩ yf (HLe.refl _) ?_
 rintro ⟨i,x,out⟩ ⟨hi,hx,ho,hg⟩
 simp only at hi hx ho hg ⊢
 refine ww ?_
 refine qAa rfl (fun h1=>?_) (fun h1=>?_)
 ·have h1':i < 30:=by simp at h1;omega
  have hq:=qG_div h1'
  have hq2:qG / 2 ^ i < 9223372036854775808:=Nat.lt_of_le_of_lt (Nat.div_le_self _ _) (by decide)
  obtain ⟨m,hm⟩:∃ m,30-i=m+1:=⟨30-i-1,by omega⟩
  rw [hm,qLi,if_neg hq,Nat.div_div_eq_div_mul,← Nat.pow_succ] at hg
  have hm':m=30-(i+1):=by omega
  subst hm'
  have hsh:Int.fdiv 1073741789 (2 ^ (min ((i:Int)).toNat IntKind.i64.bits))=((qG / 2 ^ i:Nat):Int):=by
   rw [show min ((i:Int)).toNat IntKind.i64.bits=i by simp [IntKind.bits];omega]
   exact qIe qG i
  have hand:IntKind.i64.wrap ((BitVec.ofInt IntKind.i64.bits (Int.fdiv 1073741789 (2 ^ (min ((i:Int)).toNat IntKind.i64.bits))) &&& BitVec.ofInt IntKind.i64.bits 1).toNat:Int)=((qG / 2 ^ i % 2:Nat):Int):=by
   rw [hsh]
   have:=qWx (a:=qG / 2 ^ i) (b:=1) hq2 (by omega)
   rw [Nat.and_one_is_mod] at this
   exact this
  have hxx:=mulP_lt hx hx
  have hox:=mulP_lt ho hx
  have hm1:IntKind.i64.wrap ((x:Int)*(x:Int))=((x*x:Nat):Int):=by rw [← Int.natCast_mul];exact qAj (by omega)
  have hm2:IntKind.i64.wrap ((out:Int)*(x:Int))=((out*x:Nat):Int):=by rw [← Int.natCast_mul];exact qAj (by omega)
  have ht1:Int.tmod (IntKind.i64.wrap ((x:Int)*(x:Int))) 2147483579=((x*x % pG:Nat):Int):=by rw [hm1];rfl
  have ht2:Int.tmod (IntKind.i64.wrap ((out:Int)*(x:Int))) 2147483579=((out*x % pG:Nat):Int):=by rw [hm2];rfl
  have hwi:IntKind.i64.wrap ((i:Int)+1)=((i+1:Nat):Int):=by rw [qAj (by omega)];omega
  have hl1:x*x % pG < pG:=Nat.mod_lt _ (by decide)
  have hl2:out*x % pG < pG:=Nat.mod_lt _ (by decide)
  generalize qG / 2 ^ i % 2=bt at hand hg
  refine ww ?_
  refine qAa rfl (fun h2=>?_) (fun h2=>?_)
  ·have h2':bt=1:=by rw [hand] at h2;simp at h2;omega
   rw [if_pos h2'] at hg
   refine ww ?_
   exact ⟨(i+1,x*x % pG,out*x % pG),⟨h1',hl1,hl2,hg⟩,by simp only;omega,⟨.int ht1,.refl _,.int ht2,.refl _,.int hwi,trivial⟩,HLe.refl _⟩
  ·have h2':¬ bt=1:=by rw [hand] at h2;simp at h2;omega
   rw [if_neg h2'] at hg
   refine ww ?_
   exact ⟨(i+1,x*x % pG,out),⟨h1',hl1,ho,hg⟩,by simp only;omega,⟨.int ht1,.refl _,.refl _,.refl _,.int hwi,trivial⟩,HLe.refl _⟩
 ·have h1':i=30:=by simp at h1;omega
  subst h1'
  have hg':out=fin:=by rw [← hg];rfl
  subst hg'
  refine ww ?_
  exact wwr
def qFr (x:Int):Bool:=decide (0 < x∧x < 2147483579)
def qCz (x:Int):Bool:=qFr x&&decide (x≠1)&&decide (qLi 30 x.toNat qG 1=1)
theorem qLt (x:Int):Spec Tryz.prog 142 [.I x] [] (fun r h'=>r=.d (.bool (qFr x))∧h'=[]):=by
 refine qAb hT Tryz.func142 rfl rfl rfl rfl ?_;intro E hE
 refine ww ?_
 exact qCy ⟨rfl,rfl⟩ rfl (.bool (by unfold qFr;rw [Bool.decide_and])) rfl rfl rfl rfl
theorem residueR_spec (x:Int):Spec Tryz.prog 127 [.I x] [] (fun r h'=>r=.d (.bool (qFr x))∧h'=[]):=by
 refine qAb hT Tryz.func127 rfl rfl rfl rfl ?_;intro E hE
 refine ww ?_
 exact qCy ⟨rfl,rfl⟩ rfl (.bool (by unfold qFr;rw [Bool.decide_and];congr 1)) rfl rfl rfl rfl
theorem qVq (x y:Int):(x != y)=decide (x≠y):=by rw [Bool.eq_iff_iff];simp
theorem qSt (n:Nat):((n:Int) == 1)=decide (n=1):=by rw [Bool.eq_iff_iff];simp;omega
theorem qDv (x:Int):Spec Tryz.prog 110 [.I x] [] (fun r h'=>r=.d (.bool (qCz x))∧h'=[]):=by
 have hres:=qLt x
 have hp:qFr x=true→Spec Tryz.prog 143 [.I x,.I 1073741789] [] (fun r h'=>r=.I (qLi 30 x.toNat qG 1:Int)∧h'=[]):=fun hr=>by
  have hr:0 < x∧x < 2147483579:=of_decide_eq_true hr
  have hp:=qPu x.toNat (by unfold pG;omega)
  rw [Int.toNat_of_nonneg (by omega)] at hp
  exact hp
 unfold qCz
 generalize qLi 30 x.toNat qG 1=pw at hp
 generalize qFr x=c at hp hres
 refine qAb hT Tryz.func110 rfl rfl rfl rfl ?_;intro E hE
 refine ww ?_
 refine wwc hres ?_
 refine ww ?_
 refine qEc (v:=.I (pw:Int)) rfl rfl rfl (fun hg=>⟨by first | exact True.intro | exact ⟨hg,True.intro⟩ | exact ⟨hg,hg,True.intro⟩,qFt rfl rfl (hp (by simp [gval] at hg;exact hg.1)) rfl rfl rfl⟩) ?_
 refine ww ?_
 exact qCy ⟨rfl,rfl⟩ rfl (.bool (by rw [qVq,qSt])) rfl rfl rfl rfl
theorem qEt (x:Int):Spec Tryz.prog 94 [.I x] [] (fun r h'=>r=.d (.bool (qCz x))∧h'=[]):=by
 have hres:=residueR_spec x
 have hp:qFr x=true→Spec Tryz.prog 115 [.I x,.I 1073741789] [] (fun r h'=>r=.I (qLi 30 x.toNat qG 1:Int)∧h'=[]):=fun hr=>by
  have hr:0 < x∧x < 2147483579:=of_decide_eq_true hr
  have hp:=qPf x.toNat qG 30 (by unfold pG;omega) (by decide) (by decide)
  rw [Int.toNat_of_nonneg (by omega)] at hp
  exact hp
 unfold qCz
 generalize qLi 30 x.toNat qG 1=pw at hp
 generalize qFr x=c at hp hres
 refine qAb hT Tryz.func94 rfl rfl rfl rfl ?_;intro E hE
 refine ww ?_
 refine wwc hres ?_
 refine ww ?_
 refine qEc (v:=.I (pw:Int)) rfl rfl rfl (fun hg=>⟨by first | exact True.intro | exact ⟨hg,True.intro⟩ | exact ⟨hg,hg,True.intro⟩,qFt rfl rfl (hp (by simp [gval] at hg;exact hg.1)) rfl rfl rfl⟩) ?_
 refine ww ?_
 exact qCy ⟨rfl,rfl⟩ rfl (.bool (by rw [qVq,qSt])) rfl rfl rfl rfl
theorem elemG_range {x:Int} (h:qCz x=true):0 < x∧x < 2147483579:=by
 unfold qCz qFr at h
 simp only [Bool.and_eq_true] at h
 exact of_decide_eq_true h.1.1
def qBr:Nat→Nat→List UInt8
 | 0,_=>[]
 | m+1,n=>qBr m (n / 256)++[UInt8.ofNat (n % 256)]
theorem octB_length:∀ (m n:Nat),(qBr m n).length=m
 | 0,_=>rfl
 | m+1,n=>by simp [qBr,octB_length m]
theorem octB_succ:∀ (m n:Nat),qBr (m+1) n=UInt8.ofNat (n / 256 ^ m % 256)::qBr m n
 | 0,n=>by simp [qBr]
 | m+1,n=>by
  have ih:=octB_succ m (n / 256)
  rw [qBr,ih,qBr,Nat.div_div_eq_div_mul,Nat.pow_succ,Nat.mul_comm (256 ^ m)]
  rfl
theorem qKf {α:Type} (z b:α) (l:List α):∀ (k:Nat),(List.replicate (k+1) z++l).set k b=List.replicate k z++b::l
 | 0=>rfl
 | k+1=>by
  have:=qKf z b l k
  rw [List.replicate_succ,List.cons_append,List.set_cons_succ,this,← List.cons_append,← List.replicate_succ]
theorem qEs (n m:Nat) (hm:m≤7) (hn:n < 256 ^ m):Spec Tryz.prog 111 [.I (n:Int),.I (m:Int)] [] (fun r h'=>r=.tup [.d (.sl 1 (qAg (qBr m n))),.I 0]∧h'=[]):=by
 have hn8:n < 2 ^ (8*m):=by rw [show (256:Nat)=2 ^ 8 by rfl,← Nat.pow_mul] at hn;exact hn
 have hn2:n < 72057594037927936:=Nat.lt_of_lt_of_le hn (Nat.le_trans (Nat.pow_le_pow_right (by omega) hm) (by decide))
 have hw8:IntKind.i64.wrap (8*(m:Int))=((8*m:Nat):Int):=by rw [qAj (by omega)];omega
 have hz:Int.fdiv (n:Int) (2 ^ (min (IntKind.i64.wrap (8*(m:Int))).toNat IntKind.i64.bits))=0:=by
  rw [hw8,show min (((8*m:Nat):Int)).toNat IntKind.i64.bits=8*m by simp [IntKind.bits];omega,qIe,Nat.div_eq_of_lt hn8];rfl
 refine qAb hT Tryz.func111 rfl rfl rfl rfl ?_;intro E hE
 refine ww ?_
 refine qAa rfl (fun h1=>?_) (fun h1=>?_)
 ·exact absurd h1 (by simp;omega)
 refine ww ?_
 refine qAa rfl (fun h2=>?_) (fun h2=>?_)
 ·refine absurd h2 ?_
  rw [hz];simp
 refine ww ?_
 refine qAe (makeRow_ok (n:=m) hT rfl rfl rfl rfl (by show 1*m≤_;omega) (by omega)) rfl ?_
 rw [qRl]
 refine ww ?_
 refine qAw (ι:=Nat) (fun i=>[(0,.I (n:Int)),(1,.I (m:Int)),(6,.row 0 0 m m),(25,.I (m:Int)),(26,.I (i:Int))]) (fun i=>[.row (qAx (List.replicate (m-i) 0++qBr i n))])
  (fun i=>i≤m) (fun i=>m-i) 0 (by omega) yf ⟨by simp [qBr];exact ObLe.refl _,trivial⟩ ?_
 intro i hi
 refine ww ?_
 refine qAa rfl (fun h3=>?_) (fun h3=>?_)
 ·have h3':i < m:=by simp at h3;omega
  have hwi:IntKind.i64.wrap ((i:Int)+1)=((i+1:Nat):Int):=by rw [qAj (by omega)];omega
  have hix:IntKind.i64.wrap (IntKind.i64.wrap ((m:Int)-1)-(i:Int))=((m-1-i:Nat):Int):=by rw [qAj (n:=(m:Int)-1) (by omega),qAj (by omega)];omega
  have hwb:IntKind.i64.wrap (8*(i:Int))=((8*i:Nat):Int):=by rw [qAj (by omega)];omega
  have hby:IntKind.u8.wrap (Int.fdiv (n:Int) (2 ^ (min (IntKind.i64.wrap (8*(i:Int))).toNat IntKind.i64.bits)))=((UInt8.ofNat (n / 256 ^ i % 256)).toNat:Int):=by
   rw [hwb,show min (((8*i:Nat):Int)).toNat IntKind.i64.bits=8*i by simp [IntKind.bits];omega,qIe,qEe,toNat_ofNat (Nat.mod_lt _ (by omega)),Nat.pow_mul];simp
  have hrow:(qAx (List.replicate (m-i) 0++qBr i n)).set (m-1-i) (AV.d (.int .u8 (IntKind.u8.wrap (Int.fdiv (n:Int) (2 ^ (min (IntKind.i64.wrap (8*(i:Int))).toNat IntKind.i64.bits))))))=qAx (List.replicate (m-(i+1)) 0++qBr (i+1) n):=by
   rw [hby,octB_succ,show m-i=(m-(i+1))+1 by omega,show m-1-i=m-(i+1) by omega]
   have:=qKf (0:UInt8) (UInt8.ofNat (n / 256 ^ i % 256)) (qBr i n) (m-(i+1))
   rw [← this]
   simp [qAx,List.map_set]
  have hlen:(qAx (List.replicate (m-i) 0++qBr i n)).length=m:=by rw [byteAV_length];simp [octB_length];omega
  generalize qAx (List.replicate (m-i) 0++qBr i n)=row at hrow hlen
  refine ww ?_
  refine qAe (qAd (rowAddr_ok (sz:=1) hT rfl rfl rfl rfl (by rw [hix];omega))) rfl ?_
  refine qBb (qCf hT rfl rfl rfl rfl rfl rfl (by rw [hix,hlen];simp;omega)) rfl ?_
  refine ww ?_
  refine ⟨i+1,by omega,by omega,⟨.refl _,.refl _,.refl _,.refl _,.int hwi,trivial⟩,⟨?_,trivial⟩⟩
  rw [← hrow]
  exact ObLe.row (by rw [hix,show 0+(((m-1-i:Nat):Int)).toNat*1=m-1-i by simp];rfl)
 ·have h3':i=m:=by simp at h3;omega
  subst h3'
  rw [Nat.sub_self,List.replicate_zero,List.nil_append]
  refine wwe ?_
  refine qGl 6 0 1 (qAg (qBr i n)) rfl rfl (by rw [encB_length,octB_length]) (Nat.le_refl _) (qDb _) ?_
  refine ww ?_
  exact wwr
theorem qMy (x:Int):Spec Tryz.prog 66 [.I x] [] (fun r h'=>r=.tup [.d (.sl 1 (qAg (if qCz x=true then qBr 4 x.toNat else []))),.I (if qCz x=true then 0 else 10)]∧h'=[]):=by
 have hel:=qDv x
 have hoc:qCz x=true→Spec Tryz.prog 111 [.I x,.I 4] [] (fun r h'=>r=.tup [.d (.sl 1 (qAg (qBr 4 x.toNat))),.I 0]∧h'=[]):=fun h=>by
  have hr:=elemG_range h
  have:=qEs x.toNat 4 (by omega) (by omega)
  rw [Int.toNat_of_nonneg (by omega)] at this
  exact this
 generalize qBr 4 x.toNat=bs at hoc
 generalize qCz x=c at hel hoc
 refine qAb hT Tryz.func66 rfl rfl rfl rfl ?_;intro E hE
 refine ww ?_
 refine wwc hel ?_
 refine ww ?_
 refine qAa rfl (fun h1=>?_) (fun h1=>?_)
 ·obtain rfl:c=false:=by simpa using h1
  refine ww ?_
  exact wwr
 ·obtain rfl:c=true:=by simpa using h1
  have hoc:=hoc rfl
  refine ww ?_
  refine wwc hoc ?_
  refine ww ?_
  exact wwr
theorem qIr (n k:Nat) (h:n < 9223372036854775808):IntKind.u8.wrap (Int.fdiv (n:Int) (2 ^ (min ((k:Int)).toNat IntKind.i64.bits)))=((UInt8.ofNat (n / 2 ^ (min k 64) % 256)).toNat:Int):=by
 rw [show min ((k:Int)).toNat IntKind.i64.bits=min k 64 by simp [IntKind.bits],qIe,qEe,toNat_ofNat (Nat.mod_lt _ (by omega))];simp
theorem qTo (n:Nat) (hn:n < 9223372036854775808):Spec Tryz.prog 109 [.I (n:Int)] [] (fun r h'=>r=.d (.sl 1 (qAg (qBr 4 n)))∧h'=[]):=by
 have h0:IntKind.u8.wrap (n:Int)=((UInt8.ofNat (n % 256)).toNat:Int):=by rw [qEe,toNat_ofNat (Nat.mod_lt _ (by omega))];simp
 have h1:=qIr n 8 hn
 have h2:=qIr n 16 hn
 have h3:=qIr n 24 hn
 have ho:qBr 4 n=[UInt8.ofNat (n / 2 ^ 24 % 256),UInt8.ofNat (n / 2 ^ 16 % 256),UInt8.ofNat (n / 2 ^ 8 % 256),UInt8.ofNat (n % 256)]:=by
  simp only [qBr,Nat.div_div_eq_div_mul];rfl
 refine qAb hT Tryz.func109 rfl rfl rfl rfl ?_;intro E hE
 refine ww ?_
 exact qCy ⟨rfl,rfl⟩ rfl (.dat' (by rw [ho];show [[Dat.int .u8 _],[Dat.int .u8 _],[Dat.int .u8 _],[Dat.int .u8 _]]=_;exact congr (congrArg _ (congrArg (fun z=>[Dat.int .u8 z]) h3)) (congr (congrArg _ (congrArg (fun z=>[Dat.int .u8 z]) h2)) (congr (congrArg _ (congrArg (fun z=>[Dat.int .u8 z]) h1)) (congr (congrArg _ (congrArg (fun z=>[Dat.int .u8 z]) h0)) rfl))))) rfl rfl rfl rfl
theorem qMv (x:Int):Spec Tryz.prog 64 [.I x] [] (fun r h'=>r=.tup [.d (.sl 1 (qAg (if qCz x=true then qBr 4 x.toNat else []))),.I (if qCz x=true then 0 else 10)]∧h'=[]):=by
 have hel:=qEt x
 have hoc:qCz x=true→Spec Tryz.prog 109 [.I x] [] (fun r h'=>r=.d (.sl 1 (qAg (qBr 4 x.toNat)))∧h'=[]):=fun h=>by
  have hr:=elemG_range h
  have:=qTo x.toNat (by omega)
  rw [Int.toNat_of_nonneg (by omega)] at this
  exact this
 generalize qBr 4 x.toNat=bs at hoc
 generalize qCz x=c at hel hoc
 refine qAb hT Tryz.func64 rfl rfl rfl rfl ?_;intro E hE
 refine ww ?_
 refine wwc hel ?_
 refine ww ?_
 refine qAa rfl (fun h1=>?_) (fun h1=>?_)
 ·obtain rfl:c=false:=by simpa using h1
  refine ww ?_
  exact wwr
 ·obtain rfl:c=true:=by simpa using h1
  have hoc:=hoc rfl
  refine ww ?_
  refine wwc hoc ?_
  refine ww ?_
  exact wwr
def bOf (n:Int):UInt8:=UInt8.ofNat (n % 256).toNat
theorem bOf_wrap (n:Int):IntKind.u8.wrap n=((bOf n).toNat:Int):=by
 rw [qEe];unfold bOf;rw [toNat_ofNat (by omega)];omega
theorem qKe (n:Int):Int.fdiv n (2 ^ (min (8:Int).toNat IntKind.i64.bits))=n / 256:=by
 rw [show (2 ^ (min (8:Int).toNat IntKind.i64.bits):Int)=256 from rfl,Int.fdiv_eq_ediv_of_nonneg _ (by omega)]
structure Inf where
 proto:Int
 ver:Int
 par:Int
 key:Int
 kid:Int
def qTz (x:Inf):List Dat:=[.int .i64 x.proto,.int .i64 x.ver,.int .i64 x.par,.int .i64 x.key,.int .i64 x.kid]
def qAt (l:List Inf):List (List Dat):=l.map qTz
theorem encFs_length (l:List Inf):(qAt l).length=l.length:=by simp [qAt]
theorem encFs_append (a b:List Inf):qAt (a++b)=qAt a++qAt b:=by simp [qAt]
theorem encFs_at {l:List Inf} {i:Nat} (h:i < l.length):(qAt l)[((i:Int)).toNat]?=some (qTz l[i]):=by simp [qAt,h]
def qSs (x:Inf):List AV:=[.d (.int .i64 x.proto),.d (.int .i64 x.ver),.d (.int .i64 x.par),.d (.int .i64 x.key),.d (.int .i64 x.kid)]
def qUh (p:Int):Int:=if p=2∨p=3 then 31 else 0
def qVt (p:Int):Int:=if p=4 then 255 else 0
def infE (x:Inf):Int :=
 if x.proto < 2∨x.proto > 6 then 14
 else if x.ver < 1∨x.ver > 255∨x.par < 0∨x.par > qUh x.proto∨x.kid < 0∨x.kid > qVt x.proto then 3
 else if (x.proto=4∧qCz x.key=false)∨(x.proto≠4∧x.key≠0) then 10 else 0
def qVx (p x:Inf):Bool:=decide (x.proto < p.proto∨(x.proto=p.proto∧x.kid≤p.kid))
def qSj:Option Inf→List Inf→Int
 | _,[]=>0
 | p,x::l=>if infE x≠0 then infE x else if (match p with | none=>false | some p=>qVx p x)=true then 17 else qSj (some x) l
theorem infL_nil (p:Option Inf):qSj p []=0:=by cases p <;> rfl
theorem infL_cons (p:Option Inf) (x:Inf) (l:List Inf):qSj p (x::l)=if infE x≠0 then infE x else if (match p with | none=>false | some p=>qVx p x)=true then 17 else qSj (some x) l:=by cases p <;> rfl
def validI (l:List Inf):Int:=if l.length > 16 then 2 else qSj none l
def nxV (L:List Int) (a:Nat) (n:Int):Int:=match L[a]? with
 | none=>0
 | some x=>x % n
def nxA (L:List Int) (a:Nat):Nat:=if a < L.length then a+1 else a
theorem nxA_le {L:List Int} {a:Nat} (h:a≤L.length):nxA L a≤L.length:=by unfold nxA;split <;> omega
theorem nxV_range {L:List Int} {a:Nat} {n:Int} (h:1≤n):0≤nxV L a n∧nxV L a n < n:=by
 unfold nxV
 split
 ·omega
 ·exact ⟨Int.emod_nonneg _ (by omega),Int.emod_lt_of_pos _ (by omega)⟩
theorem qAq (l:List Int) (hl:l.length≤1000000) (a:Nat) (ha:a≤l.length) (n:Int) (h1:1≤n) (hn:n≤4611686018427387904) :
  Spec Tryz.prog 30 [.ptr 0 0,.I n] [.row (qAk l a)] (fun r h'=>r=.I (nxV l a n)∧h'=[.row (qAk l (nxA l a))]):=by
 have hll:=encI_length l
 unfold qAk
 refine qAb hT Tryz.func30 rfl rfl rfl rfl ?_;intro E hE
 refine ww ?_
 refine qAa rfl (fun h2=>?_) (fun h2=>?_)
 ·have h2':¬ a < l.length:=by rw [hll] at h2;simp at h2;omega
  have hv:nxV l a n=0:=by unfold nxV;rw [List.getElem?_eq_none (by omega)]
  have hv2:nxA l a=a:=by unfold nxA;rw [if_neg h2']
  rw [hv,hv2]
  refine ww ?_
  exact wwr
 ·have h2':a < l.length:=by rw [hll] at h2;simp at h2;omega
  have hw1:IntKind.i64.wrap ((a:Int)+1)=((a+1:Nat):Int):=by rw [qAj (by omega)];simp
  have hw2:IntKind.i64.wrap (((a+1:Nat):Int)-1)=(a:Int):=by rw [qAj (by omega)];omega
  have h0:0≤IntKind.i64.wrap (IntKind.i64.wrap ((a:Int)+1)-1):=by rw [hw1,hw2];omega
  have hel:(qNf l)[(IntKind.i64.wrap (IntKind.i64.wrap ((a:Int)+1)-1)).toNat]?=some [.int .i64 l[a]]:=by rw [hw1,hw2];simp [qNf,h2']
  have hm:=qVk l[a] n h1 hn
  have hv:nxV l a n=l[a] % n:=by unfold nxV;rw [List.getElem?_eq_getElem h2']
  have hv2:nxA l a=a+1:=by unfold nxA;rw [if_pos h2']
  rw [hv,hv2]
  generalize l[a]=x at hel hm
  refine ww ?_
  refine qBh (qAd (indexAddr_ok hT rfl rfl rfl rfl h0 hel)) rfl rfl ?_
  refine ww ?_
  refine wwc hm ?_
  refine ww ?_
  refine qCy ⟨rfl,rfl⟩ rfl (.refl _) ?_ rfl rfl rfl
  rw [hw1];rfl
end Tdoc
namespace Tdoc
open Go
theorem powX_eq:∀ (m x k out:Nat),k < 2 ^ m→out < pG→qLi m x k out=out*x ^ k % pG
 | 0,x,k,out,hk,ho=>by
  have:k=0:=by simpa using hk
  subst this
  rw [qLi,Nat.pow_zero,Nat.mul_one,Nat.mod_eq_of_lt ho]
 | m+1,x,k,out,hk,ho=>by
  rw [qLi]
  by_cases h0:k=0
  ·subst h0;rw [if_pos rfl,Nat.pow_zero,Nat.mul_one,Nat.mod_eq_of_lt ho]
  ·rw [if_neg h0]
   have hk2:k / 2 < 2 ^ m:=by rw [Nat.pow_succ] at hk;omega
   have hpg:0 < pG:=by decide
   have hsq:(x*x % pG) ^ (k / 2) % pG=x ^ (2*(k / 2)) % pG:=by rw [← Nat.pow_mod,Nat.pow_mul,Nat.pow_two]
   by_cases h1:k % 2=1
   ·rw [if_pos h1,powX_eq m _ _ _ hk2 (Nat.mod_lt _ hpg),Nat.mul_mod,Nat.mod_mod,hsq,← Nat.mul_mod]
    have e:k=2*(k / 2)+1:=by omega
    conv=>rhs;rw [e,Nat.pow_succ]
    rw [Nat.mul_assoc,Nat.mul_comm x,← Nat.mul_assoc,Nat.mul_assoc out,← Nat.mul_assoc]
   ·rw [if_neg h1,powX_eq m _ _ _ hk2 ho,Nat.mul_mod,hsq,← Nat.mul_mod]
    have e:k=2*(k / 2):=by omega
    conv=>rhs;rw [e]
def nbV (v:List UInt8):Nat:=v.foldl (fun n c=>256*n+c.toNat) 0
def qCu (seed:List UInt8) (n:Nat):List UInt8:=(((List.range ((n+31) / 32)).map fun i=>qPo (seed++1::qBr 4 i)).flatten).take n
def qFp (seed:List UInt8):List UInt8:=qPo (seed++[0])
def pubS (k:Nat):Nat:=4 ^ k % pG
def encNs' (l:List Nat):List (List Dat):=l.map fun (n:Nat)=>[Dat.int .i64 (n:Int)]
open Go Go.Proofs
end Tdoc
namespace Tdoc
open Go
structure Fil where
 id:Int
 sho:Int
 con:List UInt8
 lev:Int
 rgt:Int
def qCs (f:Fil):List Dat:=[.int .i64 f.id,.int .i64 f.sho,.sl 1 (qAg f.con),.int .i64 f.lev,.int .i64 f.rgt]
def qAc (l:List Fil):List (List Dat):=l.map qCs
theorem encFils_length (l:List Fil):(qAc l).length=l.length:=by simp [qAc]
theorem encFils_at {l:List Fil} {i:Nat} (h:i < l.length):(qAc l)[i]?=some (qCs l[i]):=by simp [qAc,h]
def qQh (f:Fil):AV:=.agg [.d (.int .i64 f.id),.d (.int .i64 f.sho),.d (.sl 1 (qAg f.con)),.d (.int .i64 f.lev),.d (.int .i64 f.rgt)]
def qDy (f g:Fil):Bool:=g.id == f.id||(g.sho == f.sho&&f.sho != 0)
def qJm:List Fil→List Fil→Int
 | _,[]=>0
 | pre,f::l=>if f.id < 1∨f.id > 65535∨f.sho < 0∨f.sho > 30 then 3 else if f.lev < 0∨f.lev > 4∨f.rgt < 0∨f.rgt > (if f.lev=3 then 15 else 0) then 3
  else if f.con.length > 4096 then 2 else if pre.any (qDy f)=true then 15 else qJm (pre++[f]) l
def qEz (l:List Fil):Int:=if l.length > 24 then 2 else qJm [] l
structure Apk where
 name:List UInt8
 files:List Fil
def qEx (a:Apk):List Dat:=[.sl 1 (qAg a.name),.sl 5 (qAc a.files)]
def qAf (l:List Apk):List (List Dat):=l.map qEx
theorem encApks_length (l:List Apk):(qAf l).length=l.length:=by simp [qAf]
theorem encApks_at {l:List Apk} {i:Nat} (h:i < l.length):(qAf l)[i]?=some (qEx l[i]):=by simp [qAf,h]
def qQo (a:Apk):AV:=.agg [.d (.sl 1 (qAg a.name)),.d (.sl 5 (qAc a.files))]
def qJn:List Apk→List Apk→Int
 | _,[]=>0
 | pre,a::l=>if a.name.length < 1∨a.name.length > 16 then 2 else if pre.any (fun b=>a.name == b.name)=true then 15 else if qEz a.files≠0 then qEz a.files else qJn (pre++[a]) l
def qEl (root:List Fil) (apps:List Apk):Int:=if apps.length > 4 then 2 else if qEz root≠0 then qEz root else qJn [] apps
structure Tp where
 holder:List UInt8
 key:Int
 rights:Int
 frm:Int
 til:Int
def qEi (p:Tp):List Dat:=[.str p.holder,.int .i64 p.key,.int .i64 p.rights,.int .i64 p.frm,.int .i64 p.til]
def qAp (l:List Tp):List (List Dat):=l.map qEi
theorem encTps_length (l:List Tp):(qAp l).length=l.length:=by simp [qAp]
theorem encTps_at {l:List Tp} {i:Nat} (h:i < l.length):(qAp l)[i]?=some (qEi l[i]):=by simp [qAp,h]
def qXo (p:Tp):AV:=.agg [.d (.str p.holder),.d (.int .i64 p.key),.d (.int .i64 p.rights),.d (.int .i64 p.frm),.d (.int .i64 p.til)]
def qDo (c:UInt8):Bool:=decide ((65≤bI c∧bI c≤90)∨(48≤bI c∧bI c≤57))
def qCn (s:List UInt8):Bool:=decide (1≤s.length∧s.length≤16)&&qUr (s.getD 0 0)&&s.all qDo
def qCj (p:Tp):Int:=if qCn p.holder=false then 60 else if qCz p.key=false then 10 else if p.rights < 0∨p.rights > 65535 then 62 else if p.frm < 0∨p.frm > p.til∨p.til > 73048 then 8 else 0
def qJg:List Tp→Int
 | []=>0
 | p::l=>if qCj p≠0 then qCj p else qJg l
def qJo:List Tp→List Tp→Bool
 | _,[]=>false
 | pre,p::l=>(pre.any fun q=>q.holder == p.holder)||qJo (pre++[p]) l
def qBk (l:List Tp) (day:Int):Int:=if l.length < 1∨l.length > 2 then 72 else if qJg l≠0 then qJg l else if qJo [] l=true then 15 else if day < 0∨day > 73048 then 8 else 0
def qCq (n:Int):List UInt8:=[bOf (n / 65536),bOf (n / 256),bOf n]
def tpB (p:Tp):List UInt8:=bOf p.holder.length::(p.holder++qBr 4 p.key.toNat++[bOf (p.rights / 256),bOf p.rights]++qCq p.frm++qCq p.til)
def qBl (l:List Tp) (day:Int):List UInt8:=qCq day++[bOf l.length]++(l.map tpB).flatten
def qBp (l:List Tp) (day:Int):List UInt8×Int:=if qBk l day≠0 then ([],qBk l day) else (qBl l day,0)
def qJj (pr ur:Int) (pin:List UInt8) (l:List Tp) (day:Int):List UInt8×Int :=
 if pr < 0∨pr > 15∨ur < 0∨ur > 15 then ([],3) else if pin.length > 16 then ([],2) else if (qBp l day).2≠0 then ([],(qBp l day).2)
 else ([bOf pr,bOf ur,bOf pin.length]++pin++(qBp l day).1,0)
def qBv (n:Nat) (r:List UInt8):List UInt8:=1::(qBr 6 n++qBr 2 r.length++r++List.replicate (256-r.length) 0)
structure Per where
 root:List Fil
 apps:List Apk
 zone:List UInt8
 number:List UInt8
 pin:List UInt8
 puk:List UInt8
 pr:Int
 ur:Int
 basic:Bool
 infos:List Inf
 ck:Int
 ak:Int
 tps:List Tp
 tday:Int
 ident:List UInt8
 seed:List UInt8
def qBj (p:Per):List AV:=[.d (.sl 5 (qAc p.root)),.d (.sl 2 (qAf p.apps)),.d (.str p.zone),.d (.sl 1 (qAg p.number)),.d (.sl 1 (qAg p.pin)),.d (.sl 1 (qAg p.puk)),.d (.int .i64 p.pr),.d (.int .i64 p.ur),.d (.bool p.basic),.d (.sl 5 (qAt p.infos)),
 .I p.ck,.I p.ak,.d (.sl 5 (qAp p.tps)),.I p.tday,.d (.sl 1 (qAg p.ident)),.d (.sl 1 (qAg p.seed))]
def qBw (p:Per):AV:=.agg (qBj p)
def qGr (k:Int):Bool:=decide (0≤k∧k < 1073741789)
def qCi (p:Per):Int :=
 if qEl p.root p.apps≠0 then qEl p.root p.apps
 else if p.zone.length > 64∨p.number.length > 16∨p.pin.length > 16∨p.puk.length > 16 then 2
 else if p.pr < 1∨p.pr > 15∨p.ur < 1∨p.ur > 15 then 3
 else if validI p.infos≠0 then validI p.infos
 else if qGr p.ck=false∨qGr p.ak=false then 3
 else if qBk p.tps p.tday≠0 then qBk p.tps p.tday
 else if p.ident.length < 1∨p.ident.length > 32∨p.seed.length > 64 then 2 else 0
open Go Go.Proofs
theorem wrapu64 {n:Int} (h:0≤n∧n < 18446744073709551616):IntKind.u64.wrap n=n:=by
 simp only [IntKind.wrap,IntKind.signed,IntKind.bits]
 simp
 omega
end Tdoc
namespace Tdoc
open Go
def qKp (l:List (List UInt8)):List (List Dat):=l.map fun b=>[.sl 1 (qAg b)]
theorem encBs_length (l:List (List UInt8)):(qKp l).length=l.length:=by simp [qKp]
theorem encBs_at {l:List (List UInt8)} {i:Nat} (h:i < l.length):(qKp l)[i]?=some [.sl 1 (qAg (l.getD i []))]:=by
 unfold qKp
 rw [List.getElem?_map,List.getElem?_eq_getElem h]
 simp [h]
def qHm (l:List (List UInt8)) (i:Nat):List UInt8:=(l.take i).flatten
theorem flatN_succ {l:List (List UInt8)} {i:Nat} (h:i < l.length):qHm l (i+1)=qHm l i++l.getD i []:=by
 unfold qHm
 rw [List.take_add_one,List.flatten_append,List.getElem?_eq_getElem h]
 simp [h]
theorem flatN_all (l:List (List UInt8)):qHm l l.length=l.flatten:=by unfold qHm;rw [List.take_length]
theorem flatN_le (l:List (List UInt8)):∀ (i:Nat),i≤l.length→(qHm l i).length≤l.flatten.length:=by
 intro i hi
 have h:l.flatten=qHm l i++(l.drop i).flatten:=by unfold qHm;rw [← List.flatten_append,List.take_append_drop]
 rw [h,List.length_append];omega
def qIv (seed:List UInt8) (i:Nat):List UInt8:=((List.range i).map fun i=>qPo (seed++1::qBr 4 i)).flatten
theorem drawN_succ (seed:List UInt8) (i:Nat):qIv seed (i+1)=qIv seed i++qPo (seed++1::qBr 4 i):=by
 unfold qIv
 rw [List.range_succ,List.map_append,List.flatten_append]
 simp
theorem drawN_length (seed:List UInt8):∀ i,(qIv seed i).length=32*i
 | 0=>rfl
 | i+1=>by rw [drawN_succ,List.length_append,drawN_length seed i,sumW_length];omega
theorem drawS_eq (seed:List UInt8) (n i:Nat) (h1:n≤32*i) (h2:32*i < n+32):qCu seed n=(qIv seed i).take n:=by
 have:(n+31) / 32=i:=by omega
 unfold qCu
 rw [this];rfl
open Go Go.Proofs
theorem wshl (x:BitVec 32) (m:Int):IntKind.u32.wrap (wI x*2 ^ (min m.toNat IntKind.u32.bits))=wI (x <<< (min m.toNat 32)):=wI_shl x _
theorem wshr (x:BitVec 32) (m:Int):Int.fdiv (wI x) (2 ^ (min m.toNat IntKind.u32.bits))=wI (x >>> (min m.toNat 32)):=wI_shr x _
theorem qWe {n:Nat} (h:1≤n∧n≤31):IntKind.u64.wrap ((BitVec.ofInt IntKind.u64.bits (IntKind.u64.wrap (-(n:Int))) &&& BitVec.ofInt IntKind.u64.bits 31).toNat:Int)=((32-n:Nat):Int):=by
 have hc:∀ n,n∈List.range 32→1≤n→IntKind.u64.wrap ((BitVec.ofInt IntKind.u64.bits (IntKind.u64.wrap (-((n:Nat):Int))) &&& BitVec.ofInt IntKind.u64.bits 31).toNat:Int)=((32-n:Nat):Int):=by decide
 exact hc n (List.mem_range.2 (by omega)) h.1
theorem qTf (x:BitVec 32) (n:Nat) (h:1≤n∧n≤31):Spec Tryz.prog 313 [uV x,.I (-(n:Int))] [] (fun r h'=>r=uV (qGc x n)∧h'=[]):=by
 have hr:=qWe h
 refine qAb hT Tryz.func313 rfl rfl rfl rfl ?_;intro E hE
 refine qAl (qAh ?_)
 refine wws ?_
 refine qAl (qAh ?_)
 refine wws ?_
 refine qAs (l:=[(0,uV x),(5,.d (.int .u64 ((32-n:Nat):Int)))]) (h':=[]) ⟨.refl _,.int hr,trivial⟩ (HLe.refl _) ?_
 have h2:IntKind.u64.wrap (32-((32-n:Nat):Int))=(n:Int):=by rw [wrapu64 (by omega)];omega
 have h3:IntKind.u32.wrap (wI x*2 ^ (min (((32-n:Nat):Int)).toNat IntKind.u32.bits))=wI (x <<< (32-n)):=by
  rw [wshl,Int.toNat_natCast,show min (32-n) 32=32-n by omega]
 have h4:Int.fdiv (wI x) (2 ^ (min (IntKind.u64.wrap (32-((32-n:Nat):Int))).toNat IntKind.u32.bits))=wI (x >>> n):=by
  rw [h2,wshr,Int.toNat_natCast,show min n 32=n by omega]
 refine ww ?_
 refine rq ⟨rfl,rfl⟩ rfl (AV.le.int ?_)
 show IntKind.u32.wrap ((BitVec.ofInt IntKind.u32.bits (IntKind.u32.wrap (wI x*2 ^ (min (((32-n:Nat):Int)).toNat IntKind.u32.bits))) ||| BitVec.ofInt IntKind.u32.bits (Int.fdiv (wI x) (2 ^ (min (IntKind.u64.wrap (32-((32-n:Nat):Int))).toNat IntKind.u32.bits)))).toNat:Int)=_
 rw [h3,h4,wI_or,rotW_comm]
def qNm (x:BitVec 32) (l:List Nat):BitVec 32:=l.foldl (fun a n=>a ^^^ qGc x n) 0
theorem rotsW_take (x:BitVec 32) (l:List Nat) {i:Nat} (h:i < l.length):qNm x (l.take (i+1))=qNm x (l.take i) ^^^ qGc x (l.getD i 0):=by
 unfold qNm
 rw [List.take_add_one,List.foldl_append,List.getElem?_eq_getElem h]
 simp [h]
theorem encNs'_at {l:List Nat} {i:Nat} (h:i < l.length):(encNs' l)[i]?=some [.int .i64 ((l.getD i 0:Nat):Int)]:=by
 unfold encNs'
 rw [List.getElem?_map,List.getElem?_eq_getElem h]
 simp [h]
theorem qOp (x:BitVec 32) (l:List Nat) (hl:l.length≤10) (hn:∀ n,n∈l→1≤n∧n≤31):Spec Tryz.prog 312 [uV x,.d (.sl 1 (encNs' l))] [] (fun r h'=>r=uV (qNm x l)∧h'=[]):=by
 have hlen:(encNs' l).length=l.length:=by simp [encNs']
 refine qAb hT Tryz.func312 rfl rfl rfl rfl ?_;intro E hE
 refine ww ?_
 refine qAw (ι:=Nat) (fun i=>[(0,uV x),(5,uV (qNm x (l.take i))),(8,.d (.sl 1 (encNs' l))),(9,.I (l.length:Int)),(10,.I (i:Int))]) (fun _=>[])
  (fun i=>i≤l.length) (fun i=>l.length-i) 0 (Nat.zero_le _) ⟨.refl _,.refl _,.refl _,.int (by rw [hlen]),.refl _,trivial⟩ (HLe.refl _) ?_
 intro i hi
 refine ww ?_
 refine qAa rfl (fun h1=>?_) (fun h1=>?_)
 ·have h1':i < l.length:=by simp at h1;omega
  have hat:=encNs'_at h1'
  have hni:1≤l.getD i 0∧l.getD i 0≤31:=by
   rw [List.getD_eq_getElem?_getD,List.getElem?_eq_getElem h1'];exact hn _ (List.getElem_mem h1')
  have hstep:=rotsW_take x l h1'
  refine ww ?_
  refine wwi hat ?_
  refine ww ?_
  refine wwc (qTf x (l.getD i 0) hni) ?_
  refine ww ?_
  exact ⟨i+1,h1',by omega,⟨.refl _,.int (by rw [hstep];exact wI_xor _ _),.refl _,.refl _,.int (by rw [qAj (by omega)];omega),trivial⟩,HLe.refl _⟩
 ·have h1':i=l.length:=by simp at h1;omega
  subst h1'
  rw [List.take_length]
  refine ww ?_
  exact wwr
theorem encB_getD {b:List UInt8} {i:Nat} (h:i < b.length):(qAg b)[i]?=some [.int .u8 ((b.getD i 0).toNat:Int)]:=encB_byte h
theorem qRm (b:List UInt8) (h:4≤b.length):Spec Tryz.prog 314 [.d (.sl 1 (qAg b))] [] (fun r h'=>r=uV (qNg b 0)∧h'=[]):=by
 have h0:=encB_getD (b:=b) (i:=0) (by omega)
 have h1:=encB_getD (b:=b) (i:=1) (by omega)
 have h2:=encB_getD (b:=b) (i:=2) (by omega)
 have h3:=encB_getD (b:=b) (i:=3) (by omega)
 refine qAb hT Tryz.func314 rfl rfl rfl rfl ?_;intro E hE
 refine ww ?_
 refine wwi h0 ?_
 refine ww ?_
 refine wwi h1 ?_
 refine ww ?_
 refine wwi h2 ?_
 refine ww ?_
 refine wwi h3 ?_
 refine ww ?_
 refine rq ⟨rfl,rfl⟩ rfl (AV.le.int ?_)
 simp only [wI_byte,wshl,wI_or]
 rfl
theorem qPq:Spec Tryz.prog 275 [] [] (fun r h'=>r=.d (.sl 1 (qJh qOm))∧h'=[]):=by
 refine qAb hT Tryz.func275 rfl rfl rfl rfl ?_;intro E hE
 refine ww ?_
 refine rq ⟨rfl,rfl⟩ rfl ?_
 exact AV.le.dat' rfl
theorem bytesOf_spec (x:BitVec 32):Spec Tryz.prog 278 [uV x] [] (fun r h'=>r=.d (.sl 1 (qAg (qDn x)))∧h'=[]):=by
 refine qAb hT Tryz.func278 rfl rfl rfl rfl ?_;intro E hE
 refine ww ?_
 refine rq ⟨rfl,rfl⟩ rfl (AV.le.dat' ?_)
 simp only [wshr,bW_wrap]
 rfl
theorem qNb (es:List (List Dat)) (hl:es.length≤1000000):Spec Tryz.prog 36 [.d (.sl 1 es)] [.room] (fun r h'=>r=.sl 1 es (.right 0)∧h'=[.right 1 es.length]):=by
 refine qAb hT Tryz.func36 rfl rfl rfl rfl ?_;intro E hE
 refine ww ?_
 refine qCv (eqNil_ok hT (fun _=>rfl) rfl rfl rfl) rfl ?_
 rintro v h' ⟨rfl,b,rfl,hb⟩
 refine ww ?_
 refine qAa rfl (fun h1=>?_) (fun h1=>?_)
 ·obtain rfl:=hb h1
  refine qAl (qAh ?_)
  refine wws ?_
  refine qBt 2 1 0 (es:=[]) (.inr ⟨rfl,rfl⟩) rfl ?_
  refine ww ?_
  exact wwr
 ·refine ww ?_
  refine qAe (qHg (i:=0) hT rfl rfl rfl (.inl rfl) (by simp) rfl rfl (by show es.length*(1+1)≤140737488355328;omega)) rfl ?_
  refine ww ?_
  exact wwr
theorem qBc (es:List (List Dat)) (hl:es.length≤1000000):Spec Tryz.prog 36 [.d (.sl 1 es)] [] (fun r h'=>r=.d (.sl 1 es)∧h'=[]):=by
 refine qAb hT Tryz.func36 rfl rfl rfl rfl ?_;intro E hE
 refine ww ?_
 refine qCv (eqNil_ok hT (fun _=>rfl) rfl rfl rfl) rfl ?_
 rintro v h' ⟨rfl,b,rfl,hb⟩
 refine ww ?_
 refine qAa rfl (fun h1=>?_) (fun h1=>?_)
 ·obtain rfl:=hb h1
  refine ww ?_
  exact qBf rfl AV.le.nils rfl rfl rfl rfl ⟨rfl,rfl⟩
 ·refine ww ?_
  refine qAe (qBe (es:=[]) hT rfl rfl rfl (.inl rfl) rfl (by show (([]:List (List Dat)).length+es.length)*(1+1)≤140737488355328;simp;omega)) rfl ?_
  refine ww ?_
  exact qBf rfl (.refl _) rfl rfl rfl rfl ⟨rfl,rfl⟩
theorem wI_nat (m:Nat):IntKind.u32.wrap (m:Int)=wI (BitVec.ofNat 32 m):=by
 rw [wrap32];unfold wI;rw [BitVec.toNat_ofNat];omega
theorem encB_rep0 (b:List UInt8) (j:Nat):qAg (b++[128]++List.replicate (j+1) 0)=qAg (b++[128]++List.replicate j 0)++[[.int .u8 0]]:=by
 rw [List.replicate_succ',← List.append_assoc,encB_append];rfl
theorem qVh (b:List UInt8) (hb:b.length≤900000):Spec Tryz.prog 276 [.d (.sl 1 (qAg b))] [] (fun r h'=>r=.d (.sl 1 (qAg (qPw b)))∧h'=[]):=by
 have hbl:=encB_length b
 have hz:=padZ_lt b.length
 have hcl:=qNb (qAg b) (by omega)
 have hp:=padW_eq b
 rw [len8 _ (by omega)] at hp
 refine qAb hT Tryz.func276 rfl rfl rfl rfl ?_;intro E hE
 refine qAi ?_
 refine ww ?_
 refine qAe (qBn (v:=.sl 1 (qAg b) (.right 0)) (H':=[.right 1 (qAg b).length]) rfl rfl hcl [0] (by decide) rfl rfl rfl rfl rfl rfl rfl) rfl ?_
 refine ww ?_
 refine qAe (qAn (i:=0) hT rfl rfl rfl rfl rfl rfl (by show ((qAg b).length+1)*(1+1)≤_;omega)) rfl ?_
 refine ww ?_
 refine qAw (ι:=Nat) (fun j=>[(0,.d (.sl 1 (qAg b))),(3,.sl 1 (qAg (b++[128]++List.replicate j 0)) (.right 0))]) (fun j=>[.right 1 (qAg (b++[128]++List.replicate j 0)).length]) (fun j=>j≤qOs b.length) (fun j=>qOs b.length-j) 0 (Nat.zero_le _)
  ⟨.refl _,.slt (by rw [List.replicate_zero,List.append_nil,encB_append];rfl),trivial⟩ ⟨⟨rfl,by simp [encB_length]⟩,trivial⟩ ?_
 intro j hj
 have hlj:(qAg (b++[128]++List.replicate j 0)).length=b.length+1+j:=by rw [encB_length];simp;omega
 have hif:=padZ_iff hj
 refine ww ?_
 refine qAa rfl (fun h1=>?_) (fun h1=>?_)
 ·have h1':j < qOs b.length:=by
   rw [hlj] at h1
   have:(b.length+1+j) % 64≠56:=fun hc=>by
    have e:Int.tmod ((b.length+1+j:Nat):Int) 64=(((b.length+1+j) % 64:Nat):Int):=rfl
    rw [e,hc] at h1;exact absurd h1 (by decide)
   have:=fun hc=>this (hif.2 hc)
   omega
  have hs:=encB_rep0 b j
  refine ww ?_
  refine qAe (qAn (i:=0) hT rfl rfl rfl rfl rfl rfl (by show ((qAg (b++[128]++List.replicate j 0)).length+1)*(1+1)≤_;omega)) rfl ?_
  refine ww ?_
  exact ⟨j+1,h1',by omega,⟨.refl _,.slt hs.symm,trivial⟩,⟨⟨rfl,by rw [hs]⟩,trivial⟩⟩
 ·have h1':j=qOs b.length:=by
   rw [hlj] at h1
   refine hif.1 ?_
   have e:Int.tmod ((b.length+1+j:Nat):Int) 64=(((b.length+1+j) % 64:Nat):Int):=rfl
   rw [e] at h1
   simp at h1
   omega
  subst h1'
  refine wwe ?_
  refine qAl (qAh ?_)
  refine wws ?_
  refine qAs (l:=[(3,.sl 1 (qAg (b++[128]++List.replicate (qOs b.length) 0)) (.right 0)),(4,.d (.int .u64 ((8*b.length:Nat):Int)))]) (h':=[.right 1 (qAg (b++[128]++List.replicate (qOs b.length) 0)).length]) ⟨.refl _,.int ?_,trivial⟩ (HLe.refl _) ?_
  ·show IntKind.u64.wrap (8*IntKind.u64.wrap ((qAg b).length:Int))=_
   rw [hbl,wrapu64 (n:=(b.length:Int)) (by omega),wrapu64 (by omega)];omega
  have h5:IntKind.u32.wrap (Int.fdiv ((8*b.length:Nat):Int) (2 ^ (min (32:Int).toNat IntKind.u64.bits)))=wI (BitVec.ofNat 32 (8*b.length / 4294967296)):=by
   rw [← wI_nat];exact congrArg IntKind.u32.wrap (qIe (8*b.length) 32)
  have h6:IntKind.u32.wrap ((8*b.length:Nat):Int)=wI (BitVec.ofNat 32 (8*b.length)):=wI_nat _
  refine ww ?_
  refine wwc (bytesOf_spec (BitVec.ofNat 32 (8*b.length / 4294967296))) ?_
  refine ww ?_
  refine qAe (qAn (i:=0) hT rfl rfl rfl rfl rfl rfl (by show ((qAg (b++[128]++List.replicate (qOs b.length) 0)).length+4)*(1+1)≤_;omega)) rfl ?_
  refine ww ?_
  refine wwc (bytesOf_spec (BitVec.ofNat 32 (8*b.length))) ?_
  refine ww ?_
  refine qAe (qAn (i:=0) hT rfl rfl rfl rfl rfl rfl (by rw [List.length_append];show ((qAg (b++[128]++List.replicate (qOs b.length) 0)).length+4+4)*(1+1)≤_;omega)) rfl ?_
  refine ww ?_
  refine rq ⟨rfl,rfl⟩ rfl (AV.le.dat' ?_)
  rw [hp,← List.append_assoc];simp only [encB_append]
theorem loadI_head {T:Tr} {t:Nat} {ti:TI} {cs:List Dat} {d:Dat} (hf:T.find t=some ti) (ha:ti.agg=false) (hd:cs[0]?=some d):qSc T t cs=some (.d d):=by
 unfold qSc;rw [hf];simp only;rw [ha];simp only;rw [hd]
def kD:List Dat:=kW.map fun x=>.int .u32 (wI x)
set_option maxRecDepth 100000 in
theorem kD_tab:qGo 0=some kD:=by kernel_rfl
theorem kD_at {n:Nat} (h:n < 64):(kD.drop n)[0]?=some (.int .u32 (wI (kW.getD n 0))):=by
 have hl:kW.length=64:=rfl
 unfold kD
 rw [← List.map_drop,List.getElem?_map,List.getElem?_drop,Nat.add_zero,List.getElem?_eq_getElem (by omega)]
 simp [show n < kW.length by omega]
def vC (v:Vw):List AV:=[uV v.a,uV v.b,uV v.c,uV v.d,uV v.e,uV v.f,uV v.g,uV v.h]
theorem encW_length (v:Vw):(qJh v).length=8:=rfl
theorem encW_at (v:Vw) {i:Nat} (h:i < 8):(qJh v)[i]?=some [.int .u32 (wI ((vwL v).getD i 0))]:=by
 have hl:(vwL v).length=8:=rfl
 unfold qJh
 rw [List.getElem?_map,List.getElem?_eq_getElem (by omega)]
 simp [show i < (vwL v).length by omega]
theorem vC_at (v:Vw) {i:Nat} (h:i < 8):(vC v)[i]?=some (uV ((vwL v).getD i 0)):=by
 have hl:(vwL v).length=8:=rfl
 have:vC v=(vwL v).map uV:=rfl
 rw [this,List.getElem?_map,List.getElem?_eq_getElem (by omega)]
 simp [show i < (vwL v).length by omega]
def qUa (v r:Vw):Vw:=⟨v.a+r.a,v.b+r.b,v.c+r.c,v.d+r.d,v.e+r.e,v.f+r.f,v.g+r.g,v.h+r.h⟩
theorem addV_at (v r:Vw) {i:Nat} (h:i < 8):(vwL (qUa v r)).getD i 0=(vwL v).getD i 0+(vwL r).getD i 0:=by
 rcases (by omega:i=0∨i=1∨i=2∨i=3∨i=4∨i=5∨i=6∨i=7) with rfl | rfl | rfl | rfl | rfl | rfl | rfl | rfl <;> rfl
def qRi (v r:Vw) (i:Nat):List AV:=((vwL (qUa v r)).take i).map uV++List.replicate (8-i) (uV 0)
theorem sumC_set (v r:Vw) {i:Nat} (h:i < 8):(qRi v r i).set i (uV ((vwL v).getD i 0+(vwL r).getD i 0))=qRi v r (i+1):=by
 rw [← addV_at v r h]
 have hl:(vwL (qUa v r)).length=8:=rfl
 unfold qRi
 rw [List.take_add_one,List.map_append,List.set_append_right _ _ (by simp [hl];omega),show 8-i=(8-(i+1))+1 by omega,List.replicate_succ,List.append_assoc]
 simp [hl,show min i 8=i by omega,h]
theorem sumC_length (v r:Vw) {i:Nat} (h:i≤8):(qRi v r i).length=8:=by
 have hl:(vwL (qUa v r)).length=8:=rfl
 unfold qRi;simp [hl];omega
theorem sumC_all (v r:Vw):RowDat (qRi v r 8) 0 1 (qJh (qUa v r)):=by
 refine ⟨fun e he=>?_,fun i e j d he hd=>?_⟩
 ·simp only [qJh,List.mem_map] at he
  obtain ⟨b,_,rfl⟩:=he;rfl
 ·have hi:i < 8:=by have:=(List.getElem?_eq_some_iff.1 he).1;simpa [encW_length] using this
  rw [encW_at _ hi] at he
  cases he
  cases j with
  | zero =>
   simp at hd;subst hd
   have:qRi v r 8=vC (qUa v r):=rfl
   exact ⟨uV ((vwL (qUa v r)).getD i 0),by rw [this,Nat.zero_add,Nat.mul_one,Nat.add_zero];exact vC_at _ hi,rfl⟩
  | succ j=>simp at hd
theorem compW_eq (v:Vw) (b:List UInt8):qQl v b=qUa v (qFq v (qHt b 64) 64):=rfl
theorem qSw (b:List UInt8) (t:Nat):qNg (b.drop t) 0=qNg b t:=by
 unfold qNg
 simp only [List.getD_eq_getElem?_getD,List.getElem?_drop,Nat.zero_add,Nat.add_zero]
theorem rots2 (x:BitVec 32) (i j:Nat):qNm x [i,j]=qGc x i ^^^ qGc x j:=by
 show (0#32 ^^^ qGc x i) ^^^ qGc x j=_
 rw [BitVec.zero_xor]
theorem rots3 (x:BitVec 32) (i j k:Nat):qNm x [i,j,k]=qGc x i ^^^ qGc x j ^^^ qGc x k:=by
 show ((0#32 ^^^ qGc x i) ^^^ qGc x j) ^^^ qGc x k=_
 rw [BitVec.zero_xor]
theorem qLs (x:BitVec 32) (i j:Nat) (hi:1≤i∧i≤31) (hj:1≤j∧j≤31):Spec Tryz.prog 312 [uV x,.d (.sl 1 [[.int .i64 (i:Int)],[.int .i64 (j:Int)]])] [] (fun r h'=>r=uV (qGc x i ^^^ qGc x j)∧h'=[]):=by
 rw [← rots2]
 exact qOp x [i,j] (by simp) (fun n hn=>by simp at hn;rcases hn with rfl | rfl <;> assumption)
theorem qLr (x:BitVec 32) (i j k:Nat) (hi:1≤i∧i≤31) (hj:1≤j∧j≤31) (hk:1≤k∧k≤31):Spec Tryz.prog 312 [uV x,.d (.sl 1 [[.int .i64 (i:Int)],[.int .i64 (j:Int)],[.int .i64 (k:Int)]])] [] (fun r h'=>r=uV (qGc x i ^^^ qGc x j ^^^ qGc x k)∧h'=[]):=by
 rw [← rots3]
 exact qOp x [i,j,k] (by simp) (fun n hn=>by simp at hn;rcases hn with rfl | rfl | rfl <;> assumption)
theorem roundW_zero (v:Vw) (w:List (BitVec 32)):qFq v w 0=v:=rfl
theorem roundW_succ (v:Vw) (w:List (BitVec 32)) (n:Nat):qFq v w (n+1)=qWb (qFq v w n) (kW.getD n 0) (w.getD n 0):=rfl
theorem qLc (v:Vw) (b:List UInt8) (hb:b.length=64):Spec Tryz.prog 277 [.d (.sl 1 (qJh v)),.d (.sl 1 (qAg b))] [] (fun r h'=>r=.tup [.d (.sl 1 (qJh (qQl v b))),.I 0]∧h'=[]):=by
 have hbl:=encB_length b
 obtain ⟨m,hm⟩:∃ m:Nat,m=64:=⟨_,rfl⟩
 have hfin:qQl v b=qUa v (qFq v (qHt b m) m):=by subst hm;exact compW_eq v b
 have hcw:∀ n,n < m→(cellsW b m)[n]?=some (uV ((qHt b m).getD n 0)):=by subst hm;exact fun n h=>cells64 b h
 rw [hfin]
 clear hfin
 refine qAb hT Tryz.func277 rfl rfl rfl rfl ?_;intro E hE
 refine ww ?_
 refine qAa rfl (fun c1=>?_) (fun c1=>?_)
 ·exact absurd c1 (by simp [encW_length,hbl,hb])
 refine ww ?_
 refine qAw (ι:=Nat) (fun t=>[(0,.d (.sl 1 (qJh v))),(1,.d (.sl 1 (qAg b))),(6,.fn (.func 312) [] []),(7,.ptr 0 0),(27,.I (t:Int))]) (fun t=>[.row (cellsW b t)]) (fun t=>t≤m) (fun t=>m-t) 0 (Nat.zero_le _)
  yf ⟨ObLe.row rfl,trivial⟩ ?_
 intro t ht
 have hcl:=cellsW_length b (t:=t) (by omega)
 refine ww ?_
 refine qAa rfl (fun c2=>?_) (fun c2=>?_)
 ·have ht':t < 64:=by simp at c2;omega
  refine ww ?_
  refine qAa rfl (fun c3=>?_) (fun c3=>?_)
  ·have c3':t < 16:=by simp at c3;omega
   have hw4:IntKind.i64.wrap (4*(t:Int))=((4*t:Nat):Int):=by rw [qAj (by omega)];omega
   refine qAl (qAh ?_)
   refine wk hT rfl rfl ?_
   refine wk hT rfl rfl ?_
   refine wk hT rfl rfl ?_
   refine wk hT rfl rfl ?_
   refine wk hT rfl rfl ?_
   rw [hw4,Int.toNat_natCast,encB_drop]
   refine wwc (qRm (b.drop (4*t)) (by rw [List.length_drop];omega)) ?_
   rw [qSw]
   have hst:=cellsW_set b ht'
   rw [schW_word b c3'] at hst
   refine qAe (qAd (arrPtr_ok hT rfl rfl rfl rfl (by omega))) rfl ?_
   refine qBb (qCf hT rfl rfl rfl rfl rfl rfl (by show 0+((t:Int)).toNat*1 < (cellsW b t).length;rw [hcl];omega)) rfl ?_
   rw [show 0+((t:Int)).toNat*1=t by omega]
   refine ww ?_
   exact ⟨t+1,by omega,by omega,⟨.refl _,.refl _,.refl _,.refl _,.int (by rw [qAj (by omega)];omega),trivial⟩,⟨ObLe.row hst,trivial⟩⟩
  ·have c3':16≤t:=by simp at c3;omega
   have hx:=cellsW_at b (i:=t-15) (t:=t) (by omega)
   have hy:=cellsW_at b (i:=t-2) (t:=t) (by omega)
   have h7:=cellsW_at b (i:=t-7) (t:=t) (by omega)
   have h16:=cellsW_at b (i:=t-16) (t:=t) (by omega)
   have hst:=cellsW_set b ht'
   rw [schW_next b c3'] at hst
   generalize (qHt b t).getD (t-15) 0=x at hx hst
   generalize (qHt b t).getD (t-2) 0=y at hy hst
   generalize (qHt b t).getD (t-7) 0=z7 at h7 hst
   generalize (qHt b t).getD (t-16) 0=z16 at h16 hst
   have e15:IntKind.i64.wrap ((t:Int)-15)=((t-15:Nat):Int):=by rw [qAj (by omega)];omega
   have e2:IntKind.i64.wrap ((t:Int)-2)=((t-2:Nat):Int):=by rw [qAj (by omega)];omega
   have e7:IntKind.i64.wrap ((t:Int)-7)=((t-7:Nat):Int):=by rw [qAj (by omega)];omega
   have e16:IntKind.i64.wrap ((t:Int)-16)=((t-16:Nat):Int):=by rw [qAj (by omega)];omega
   refine ww ?_
   refine qBh (qAd (arrPtr_ok hT rfl rfl rfl rfl (by rw [e15];omega))) rfl rfl ?_
   refine qBh (qCo (v:=uV x) hT rfl rfl rfl rfl rfl (by rw [e15];show (cellsW b t)[0+((t-15:Nat):Int).toNat*1]?=_;rw [show 0+((t-15:Nat):Int).toNat*1=t-15 by omega];exact hx)) rfl rfl ?_
   refine ww ?_
   refine qBh (qAd (arrPtr_ok hT rfl rfl rfl rfl (by rw [e2];omega))) rfl rfl ?_
   refine qBh (qCo (v:=uV y) hT rfl rfl rfl rfl rfl (by rw [e2];show (cellsW b t)[0+((t-2:Nat):Int).toNat*1]?=_;rw [show 0+((t-2:Nat):Int).toNat*1=t-2 by omega];exact hy)) rfl rfl ?_
   refine wwn ?_
   refine qAs (l:=[(0,.d (.sl 1 (qJh v))),(1,.d (.sl 1 (qAg b))),(6,.fn (.func 312) [] []),(7,.ptr 0 0),(8,.I (t:Int)),(9,uV x),(10,uV y),(27,.I (t:Int))]) (h':=[.row (cellsW b t)]) yf (HLe.refl _) ?_
   refine qDg (fun _=>[0]) (fun i=>bif Nat.beq i 27 then [0] else []) mixed (by kernel_rfl) ?_
   refine wwg ?_
   refine qAm (os:=[]) (fun k hk1 hk2=>buildSl_ok hT rfl rfl) rfl ?_
   refine wwdc (qLs y 17 19 (by omega) (by omega)) ?_
   refine wwg ?_
   refine qAm (os:=[]) (fun k hk1 hk2=>qAd (arrPtr_ok hT rfl rfl rfl rfl (by rw [e7];omega))) rfl ?_
   refine qAm (v:=uV z7) (os:=[]) (fun k hk1 hk2=>qCo hT rfl rfl ((hk2 0 List.mem_cons_self).trans rfl) rfl rfl (by rw [e7];show (cellsW b t)[0+((t-7:Nat):Int).toNat*1]?=_;rw [show 0+((t-7:Nat):Int).toNat*1=t-7 by omega];exact h7)) rfl ?_
   refine wwg ?_
   refine qAm (os:=[]) (fun k hk1 hk2=>buildSl_ok hT rfl rfl) rfl ?_
   refine wwdc (qLs x 7 18 (by omega) (by omega)) ?_
   refine wwg ?_
   refine qAm (os:=[]) (fun k hk1 hk2=>qAd (arrPtr_ok hT rfl rfl rfl rfl (by rw [e16];omega))) rfl ?_
   refine qAm (v:=uV z16) (os:=[]) (fun k hk1 hk2=>qCo hT rfl rfl ((hk2 0 List.mem_cons_self).trans rfl) rfl rfl (by rw [e16];show (cellsW b t)[0+((t-16:Nat):Int).toNat*1]?=_;rw [show 0+((t-16:Nat):Int).toNat*1=t-16 by omega];exact h16)) rfl ?_
   refine wwg ?_
   refine qAm (os:=[]) (fun k hk1 hk2=>qAd (arrPtr_ok hT rfl rfl rfl rfl (by omega))) rfl ?_
   have hval:∀ r,r=wI (sg1 y+z7+sg0 x+z16)→(cellsW b t).set (0+((t:Int)).toNat*1) (.d (.int .u32 r))=cellsW b (t+1):=by
    intro r hr;subst hr;rw [show 0+((t:Int)).toNat*1=t by omega];exact hst
   refine qAm (v:=.any) (os:=[.row ((cellsW b t).set (0+((t:Int)).toNat*1) _)]) (fun k hk1 hk2=>qCf hT rfl rfl ((hk2 0 List.mem_cons_self).trans rfl) rfl rfl rfl (by show 0+((t:Int)).toNat*1 < (cellsW b t).length;rw [hcl];omega)) rfl ?_
   refine wwg ?_
   refine ww ?_
   exact ⟨t+1,by omega,by omega,⟨.refl _,.refl _,.refl _,.refl _,.int (by rw [qAj (by omega)];omega),trivial⟩,⟨ObLe.row (hval _ (by simp only [wshr,wI_xor,wI_add];rfl)),trivial⟩⟩
 have ht':t=m:=by simp at c2;omega
 subst ht'
 generalize cellsW b t=cw at hcw hcl ⊢
 generalize qHt b t=w at hcw ⊢
 refine ww ?_
 refine qAe (qAd (sliceArr_ok hT rfl rfl rfl (by rw [encW_length];omega))) rfl ?_
 refine ww ?_
 refine qAw (ι:=Nat) (fun n=>[(0,.d (.sl 1 (qJh v))),(6,.fn (.func 312) [] []),(7,.ptr 0 0),(11,.ptr 1 0),(78,.I (n:Int))]) (fun n=>[.row (cw),.row (vC (qFq v w n))]) (fun n=>n≤t) (fun n=>t-n) 0 (Nat.zero_le _)
  yf ⟨ObLe.refl _,ObLe.row (by rw [roundW_zero];rfl),trivial⟩ ?_
 intro n hn
 refine ww ?_
 refine qAa rfl (fun c3=>?_) (fun c3=>?_)
 ·have hn':n < 64:=by simp at c3;omega
  have hr1:=roundW_succ v w n
  have hwn:=hcw n (by omega)
  have hkn:=kD_at hn'
  generalize qFq v w n=r at hr1 ⊢
  generalize w.getD n 0=wn at hr1 hwn
  generalize kW.getD n 0=kn at hr1 hkn
  refine ww ?_
  first | refine qAe (qAd (arrPtr_ok hT rfl rfl rfl rfl (by decide))) rfl ?_ | refine qBh (qAd (arrPtr_ok hT rfl rfl rfl rfl (by decide))) rfl rfl ?_
  refine ww ?_
  first | refine qAe (qAd (arrPtr_ok hT rfl rfl rfl rfl (by decide))) rfl ?_ | refine qBh (qAd (arrPtr_ok hT rfl rfl rfl rfl (by decide))) rfl rfl ?_
  refine wwn ?_
  refine qAs (l:=[(0,.d (.sl 1 (qJh v))),(6,.fn (.func 312) [] []),(7,.ptr 0 0),(11,.ptr 1 0),(12,.I (n:Int)),(13,uV r.a),(14,uV r.e),(78,.I (n:Int))]) (h':=[.row (cw),.row (vC r)]) yf (HLe.refl _) ?_
  refine wx mixed ?_
  refine wws ?_
  first | refine qAe (qAd (arrPtr_ok hT rfl rfl rfl rfl (by decide))) rfl ?_ | refine qBh (qAd (arrPtr_ok hT rfl rfl rfl rfl (by decide))) rfl rfl ?_
  refine wws ?_
  refine wwc (qLr r.e 6 11 25 (by omega) (by omega) (by omega)) ?_
  refine wws ?_
  first | refine qAe (qAd (arrPtr_ok hT rfl rfl rfl rfl (by decide))) rfl ?_ | refine qBh (qAd (arrPtr_ok hT rfl rfl rfl rfl (by decide))) rfl rfl ?_
  refine wws ?_
  first | refine qAe (qAd (arrPtr_ok hT rfl rfl rfl rfl (by decide))) rfl ?_ | refine qBh (qAd (arrPtr_ok hT rfl rfl rfl rfl (by decide))) rfl rfl ?_
  refine wws ?_
  refine qBh (qAd (arrAddr_ok (cs:=kD) hT rfl rfl (by show (match qGo 0 with | some cs=>AV.iptr cs | none=>.any)=_;rw [kD_tab]) rfl (by omega))) rfl rfl ?_
  refine qBh (qAd (loadI_ok hT rfl rfl (loadI_head rfl rfl (by rw [show ((n:Int)).toNat*1=n by omega];exact hkn)))) rfl rfl ?_
  refine wws ?_
  refine qBh (qAd (arrPtr_ok hT rfl rfl rfl rfl (by omega))) rfl rfl ?_
  refine qBh (qCo (v:=uV wn) hT rfl rfl rfl rfl rfl (by show (cw)[0+((n:Int)).toNat*1]?=_;rw [show 0+((n:Int)).toNat*1=n by omega];exact hwn)) rfl rfl ?_
  refine wwn ?_
  refine qAs (l:=[(0,.d (.sl 1 (qJh v))),(6,.fn (.func 312) [] []),(7,.ptr 0 0),(11,.ptr 1 0),(12,.I (n:Int)),(13,uV r.a),(14,uV r.e),(15,uV (r.h+bs1 r.e+((r.e &&& r.f) ^^^ (~~~ r.e &&& r.g))+kn+wn)),(78,.I (n:Int))]) (h':=[.row cw,.row (vC r)])
   ⟨.refl _,.refl _,.refl _,.refl _,.refl _,.refl _,.refl _,.int (by simp only [wI_not,wI_and,wI_xor,wI_add,uV];rfl),.refl _,trivial⟩ (HLe.refl _) ?_
  generalize hT1:r.h+bs1 r.e+((r.e &&& r.f) ^^^ (~~~ r.e &&& r.g))+kn+wn=T1
  refine wx mixed ?_
  refine wws ?_
  refine wwc (qLr r.a 2 13 22 (by omega) (by omega) (by omega)) ?_
  refine wws ?_
  first | refine qAe (qAd (arrPtr_ok hT rfl rfl rfl rfl (by decide))) rfl ?_ | refine qBh (qAd (arrPtr_ok hT rfl rfl rfl rfl (by decide))) rfl rfl ?_
  refine wws ?_
  first | refine qAe (qAd (arrPtr_ok hT rfl rfl rfl rfl (by decide))) rfl ?_ | refine qBh (qAd (arrPtr_ok hT rfl rfl rfl rfl (by decide))) rfl rfl ?_
  refine wws ?_
  first | refine qAe (qAd (arrPtr_ok hT rfl rfl rfl rfl (by decide))) rfl ?_ | refine qBh (qAd (arrPtr_ok hT rfl rfl rfl rfl (by decide))) rfl rfl ?_
  refine wws ?_
  first | refine qAe (qAd (arrPtr_ok hT rfl rfl rfl rfl (by decide))) rfl ?_ | refine qBh (qAd (arrPtr_ok hT rfl rfl rfl rfl (by decide))) rfl rfl ?_
  refine wws ?_
  refine qAs (l:=[(0,.d (.sl 1 (qJh v))),(6,.fn (.func 312) [] []),(7,.ptr 0 0),(11,.ptr 1 0),(15,uV T1),(16,uV (bs0 r.a+((r.a &&& r.b) ^^^ (r.a &&& r.c) ^^^ (r.b &&& r.c)))),(78,.I (n:Int))]) (h':=[.row cw,.row (vC r)])
   ⟨.refl _,.refl _,.refl _,.refl _,.refl _,.int (by simp only [wI_not,wI_and,wI_xor,wI_add,uV];rfl),.refl _,trivial⟩ (HLe.refl _) ?_
  generalize hT2:bs0 r.a+((r.a &&& r.b) ^^^ (r.a &&& r.c) ^^^ (r.b &&& r.c))=T2
  have hfv:vC (qWb r kn wn)=[uV (T1+T2),uV r.a,uV r.b,uV r.c,uV (r.d+T1),uV r.e,uV r.f,uV r.g]:=by rw [← hT1,← hT2];rfl
  refine ww ?_
  first | refine qAe (qAd (arrPtr_ok hT rfl rfl rfl rfl (by decide))) rfl ?_ | refine qBh (qAd (arrPtr_ok hT rfl rfl rfl rfl (by decide))) rfl rfl ?_
  refine ww ?_
  first | refine qAe (qAd (arrPtr_ok hT rfl rfl rfl rfl (by decide))) rfl ?_ | refine qBh (qAd (arrPtr_ok hT rfl rfl rfl rfl (by decide))) rfl rfl ?_
  refine ww ?_
  first | refine qAe (qAd (arrPtr_ok hT rfl rfl rfl rfl (by decide))) rfl ?_ | refine qBh (qAd (arrPtr_ok hT rfl rfl rfl rfl (by decide))) rfl rfl ?_
  refine ww ?_
  first | refine qAe (qAd (arrPtr_ok hT rfl rfl rfl rfl (by decide))) rfl ?_ | refine qBh (qAd (arrPtr_ok hT rfl rfl rfl rfl (by decide))) rfl rfl ?_
  refine ww ?_
  first | refine qAe (qAd (arrPtr_ok hT rfl rfl rfl rfl (by decide))) rfl ?_ | refine qBh (qAd (arrPtr_ok hT rfl rfl rfl rfl (by decide))) rfl rfl ?_
  refine ww ?_
  first | refine qAe (qAd (arrPtr_ok hT rfl rfl rfl rfl (by decide))) rfl ?_ | refine qBh (qAd (arrPtr_ok hT rfl rfl rfl rfl (by decide))) rfl rfl ?_
  refine ww ?_
  first | refine qAe (qAd (arrPtr_ok hT rfl rfl rfl rfl (by decide))) rfl ?_ | refine qBh (qAd (arrPtr_ok hT rfl rfl rfl rfl (by decide))) rfl rfl ?_
  refine ww ?_
  exact ⟨n+1,by omega,by omega,⟨.refl _,.refl _,.refl _,.refl _,.int (by rw [qAj (by omega)];omega),trivial⟩,⟨ObLe.refl _,ObLe.row (by rw [hr1,hfv];simp only [uV,wI_add]),trivial⟩⟩
 have hn':n=t:=by simp at c3;omega
 subst hn'
 generalize qFq v w n=r
 refine ww ?_
 refine qAe (makeRow1_ok (n:=8) hT rfl rfl rfl rfl (by decide) (by decide)) rfl ?_
 refine ww ?_
 refine qAw (ι:=Nat) (fun i=>[(0,.d (.sl 1 (qJh v))),(11,.ptr 1 0),(17,.row 2 0 8 8),(154,.I 8),(155,.I (i:Int))]) (fun i=>[.row cw,.row (vC r),.row (qRi v r i)]) (fun i=>i≤8) (fun i=>8-i) 0 (Nat.zero_le _)
  yf ⟨ObLe.refl _,ObLe.refl _,ObLe.row rfl,trivial⟩ ?_
 intro i hi
 refine ww ?_
 refine qAa rfl (fun c4=>?_) (fun c4=>?_)
 ·have hi':i < 8:=by simp at c4;omega
  have hs:=sumC_set v r hi'
  have hv:=encW_at v hi'
  have hr:=vC_at r hi'
  have hsl:=sumC_length v r hi
  generalize (vwL v).getD i 0=x at hs hv
  generalize (vwL r).getD i 0=y at hs hr
  refine wwn ?_
  refine qDg (fun i=>bif Nat.beq i 8 then [1] else bif Nat.beq i 11 then [2] else []) (fun i=>bif Nat.beq i 11 then [2] else []) mixed (by kernel_rfl) ?_
  refine wwg ?_
  refine qAm (os:=[]) (fun k hk1 hk2=>qAd (indexAddr_ok hT rfl rfl rfl rfl (by omega) hv)) rfl ?_
  refine wwg ?_
  refine qAm (os:=[]) (fun k hk1 hk2=>qAd (arrPtr_ok hT rfl rfl rfl rfl (by omega))) rfl ?_
  refine qAm (v:=uV y) (os:=[]) (fun k hk1 hk2=>qCo hT rfl rfl ((hk2 1 List.mem_cons_self).trans rfl) rfl rfl (by show (vC r)[0+((i:Int)).toNat*1]?=_;rw [show 0+((i:Int)).toNat*1=i by omega];exact hr)) rfl ?_
  refine wwg ?_
  refine qAm (os:=[]) (fun k hk1 hk2=>qAd (rowAddr_ok (sz:=1) hT rfl rfl rfl rfl (by omega))) rfl ?_
  have hval:∀ z,z=wI (x+y)→(qRi v r i).set (0+((i:Int)).toNat*1) (.d (.int .u32 z))=qRi v r (i+1):=by
   intro z hz;subst hz;rw [show 0+((i:Int)).toNat*1=i by omega];exact hs
  refine qAm (v:=.any) (os:=[.row ((qRi v r i).set (0+((i:Int)).toNat*1) _)]) (fun k hk1 hk2=>qCf hT rfl rfl ((hk2 2 List.mem_cons_self).trans rfl) rfl rfl rfl (by show 0+((i:Int)).toNat*1 < (qRi v r i).length;rw [hsl];omega)) rfl ?_
  refine wwg ?_
  refine ww ?_
  exact ⟨i+1,hi',by omega,⟨.refl _,.refl _,.refl _,.refl _,.int (by rw [qAj (by omega)];omega),trivial⟩,⟨ObLe.refl _,ObLe.refl _,ObLe.row (hval _ (wI_add x y)),trivial⟩⟩
 have hi':i=8:=by simp at c4;omega
 subst hi'
 refine wwe ?_
 refine qGl 17 2 1 (qJh (qUa v r)) rfl rfl rfl (by decide) (sumC_all v r) ?_
 refine ww ?_
 exact wwr
end Tdoc
namespace Tdoc
open Go
def nbN (v:List UInt8):Nat:=v.foldl (fun n c=>256*n+c.toNat) 0
theorem nbN_snoc (v:List UInt8) (c:UInt8):nbN (v++[c])=256*nbN v+c.toNat:=by simp [nbN]
theorem nbN_lt:∀ (v:List UInt8),nbN v < 256 ^ v.length:=fun v=>by
 suffices h:∀ (v:List UInt8) (n:Nat),v.foldl (fun n c=>256*n+c.toNat) n < (n+1)*256 ^ v.length by
  have:=h v 0;simpa [nbN] using this
 intro v
 induction v with
 | nil=>intro n;simp
 | cons c v ih =>
  intro n
  have h1:=ih (256*n+c.toNat)
  have h2:=UInt8.toNat_lt c
  rw [List.foldl_cons,List.length_cons,Nat.pow_succ,Nat.mul_comm (256 ^ v.length) 256,← Nat.mul_assoc]
  exact Nat.lt_of_lt_of_le h1 (Nat.mul_le_mul_right _ (by omega))
open Go Go.Proofs
end Tdoc
