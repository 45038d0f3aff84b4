/- Part 7 of the proof: the texts C1 WW E1 E2 E3 E4 E5 E6 E7 E8 E9 E10 E11. -/
import Derived.Test.YtelocejblpajcaaGreatDoorProg
import Derived.Test.YtelocejblpajcaaGreatDoorTR4
set_option linter.unusedVariables false
set_option linter.unusedSimpArgs false
set_option maxHeartbeats 8000000
set_option maxRecDepth 100000
namespace Tdoc
open Go Go.Proofs
def T:Tr:=(.nd (.nd (.nd (.nd (.nd (.nd (.nd .lf 2 ⟨.int .i64,1,8,[.d (.int .i64 0)]⟩ .lf) 3 ⟨.int .i64,1,8,[.d (.int .i64 0)]⟩ (.nd .lf 4 ⟨.bool,1,1,[.d (.bool false)]⟩ .lf)) 5 ⟨.int .u8,1,1,[.d (.int .u8 0)]⟩ (.nd (.nd .lf 9 ⟨.str,1,16,[.d (.str [])]⟩ .lf) 12 ⟨.int .u64,1,8,[.d (.int .u64 0)]⟩ .lf)) 21 ⟨.int .i32,1,4,[.d (.int .i32 0)]⟩ (.nd (.nd (.nd .lf 22 ⟨.slice 3,1,24,[.sl 1 [] .full]⟩ .lf) 23 ⟨.slice 92,1,24,[.sl 5 [] .full]⟩ .lf) 25 ⟨.struct [(0,1,false),(1,1,false)],2,32,[.sl 5 [] .full,.d (.int .i64 0)]⟩ (.nd (.nd .lf 27 ⟨.struct [(0,1,false),(1,1,false),(2,1,false),(3,1,false),(4,1,false),(5,1,false),(6,1,false),(7,1,false),(8,1,false),(9,2,true),(11,1,false)],12,192,[.d (.str []),.d (.str []),.d (.str []),.d (.str []),.d (.str []),.d (.str []),.d (.int .i64 0),.sl 1 [] .full,.d (.bool false),.sl 5 [] .full,.d (.int .i64 0),.sl 1 [] .full]⟩ .lf) 30 ⟨.slice 34,1,24,[.sl 11 [] .full]⟩ .lf))) 32 ⟨.struct [(0,1,false),(1,1,false)],2,16,[.d (.int .i64 0),.d (.int .i64 0)]⟩ (.nd (.nd (.nd (.nd .lf 34 ⟨.struct [(0,1,false),(1,1,false),(2,1,false),(3,1,false),(4,1,false),(5,1,false),(6,1,false),(7,1,false),(8,1,false),(9,2,true)],11,96,[.d (.str []),.d (.int .i64 0),.d (.int .i64 0),.d (.int .i64 0),.d (.int .i64 0),.d (.int .i64 0),.d (.int .i64 0),.d (.int .i64 0),.d (.int .i64 0),.d (.int .i64 0),.d (.int .i64 0)]⟩ .lf) 35 ⟨.slice 166,1,24,[.sl 5 [] .full]⟩ (.nd .lf 36 ⟨.slice 5,1,24,[.sl 1 [] .full]⟩ .lf)) 38 ⟨.struct [(0,1,false),(1,1,false),(2,1,false),(3,1,false),(4,11,true),(15,11,true),(26,1,false),(27,1,false),(28,1,false),(29,1,false),(30,1,false),(31,1,false),(32,1,false)],33,384,[.d (.str []),.sl 11 [] .full,.sl 11 [] .full,.sl 1 [] .full,.d (.str []),.d (.int .i64 0),.d (.int .i64 0),.d (.int .i64 0),.d (.int .i64 0),.d (.int .i64 0),.d (.int .i64 0),.d (.int .i64 0),.d (.int .i64 0),.d (.int .i64 0),.d (.int .i64 0),.d (.str []),.d (.int .i64 0),.d (.int .i64 0),.d (.int .i64 0),.d (.int .i64 0),.d (.int .i64 0),.d (.int .i64 0),.d (.int .i64 0),.d (.int .i64 0),.d (.int .i64 0),.d (.int .i64 0),.d (.int .i64 0),.d (.int .i64 0),.d (.int .i64 0),.d (.int .i64 0),.sl 1 [] .full,.sl 5 [] .full,.sl 1 [] .full]⟩ (.nd (.nd .lf 42 ⟨.array 2 3,2,16,[.d (.int .i64 0),.d (.int .i64 0)]⟩ .lf) 43 ⟨.slice 9,1,24,[.sl 1 [] .full]⟩ .lf)) 44 ⟨.slice 195,1,24,[.sl 5 [] .full]⟩ (.nd (.nd (.nd .lf 45 ⟨.slice 186,1,24,[.sl 2 [] .full]⟩ .lf) 47 ⟨.struct [(0,1,false),(1,1,false)],2,48,[.sl 5 [] .full,.sl 2 [] .full]⟩ .lf) 48 ⟨.slice 173,1,24,[.sl 5 [] .full]⟩ (.nd (.nd .lf 50 ⟨.struct [(0,2,true),(2,1,false),(3,1,false),(4,1,false),(5,1,false),(6,1,false),(7,1,false),(8,1,false),(9,1,false),(10,1,false),(11,1,false),(12,2,true),(14,1,false),(15,1,false)],16,280,[.sl 5 [] .full,.sl 2 [] .full,.d (.str []),.sl 1 [] .full,.sl 1 [] .full,.sl 1 [] .full,.d (.int .i64 0),.d (.int .i64 0),.d (.bool false),.sl 5 [] .full,.d (.int .i64 0),.d (.int .i64 0),.sl 5 [] .full,.d (.int .i64 0),.sl 1 [] .full,.sl 1 [] .full]⟩ .lf) 51 ⟨.array 2 36,2,48,[.sl 1 [] .full,.sl 1 [] .full]⟩ .lf)))) 53 ⟨.struct [(0,2,true)],2,48,[.sl 1 [] .full,.sl 1 [] .full]⟩ (.nd (.nd (.nd (.nd (.nd .lf 55 ⟨.struct [(0,1,false),(1,1,false)],2,16,[.d (.int .i64 0),.d (.int .i64 0)]⟩ .lf) 57 ⟨.struct [(0,1,false),(1,1,false),(2,1,false),(3,1,false),(4,1,false)],5,24,[.d (.int .i64 0),.d (.bool false),.d (.bool false),.d (.bool false),.d (.int .i64 0)]⟩ (.nd .lf 59 ⟨.struct [(0,1,false),(1,1,false),(2,1,false)],3,56,[.sl 1 [] .full,.sl 1 [] .full,.d (.int .i64 0)]⟩ .lf)) 61 ⟨.struct [(0,1,false),(1,1,false)],2,32,[.d (.int .i64 0),.sl 1 [] .full]⟩ (.nd (.nd .lf 63 ⟨.struct [(0,2,true),(2,1,false),(3,1,false),(4,1,false),(5,1,false),(6,1,false),(7,1,false),(8,1,false),(9,3,true)],12,160,[.d (.int .i64 0),.sl 1 [] .full,.d (.int .i64 0),.d (.int .i64 0),.sl 1 [] .full,.d (.int .i64 0),.d (.int .i64 0),.d (.int .i64 0),.d (.int .i64 0),.sl 1 [] .full,.sl 1 [] .full,.d (.int .i64 0)]⟩ .lf) 65 ⟨.struct [(0,1,false),(1,1,false),(2,1,false),(3,1,false),(4,1,false),(5,1,false)],6,56,[.d (.str []),.d (.int .i64 0),.d (.int .i64 0),.d (.int .i64 0),.d (.int .i64 0),.d (.int .i64 0)]⟩ .lf)) 67 ⟨.struct [(0,1,false),(1,1,false),(2,1,false),(3,1,false),(4,1,false),(5,1,false)],6,64,[.d (.int .i64 0),.d (.int .i64 0),.d (.int .i64 0),.d (.int .i64 0),.sl 1 [] .full,.d (.int .i64 0)]⟩ (.nd (.nd (.nd .lf 69 ⟨.struct [(0,16,true),(16,2,true),(18,1,false),(19,1,false),(20,2,true),(22,5,true),(27,1,false),(28,3,true),(31,1,false),(32,1,false),(33,12,true),(45,1,false),(46,6,true),(52,1,false),(53,1,false),(54,6,true)],60,816,[.sl 5 [] .full,.sl 2 [] .full,.d (.str []),.sl 1 [] .full,.sl 1 [] .full,.sl 1 [] .full,.d (.int .i64 0),.d (.int .i64 0),.d (.bool false),.sl 5 [] .full,.d (.int .i64 0),.d (.int .i64 0),.sl 5 [] .full,.d (.int .i64 0),.sl 1 [] .full,.sl 1 [] .full,.sl 1 [] .full,.sl 1 [] .full,.sl 1 [] .full,.d (.bool false),.d (.int .i64 0),.d (.int .i64 0),.d (.int .i64 0),.d (.bool false),.d (.bool false),.d (.bool false),.d (.int .i64 0),.d (.bool false),.sl 1 [] .full,.sl 1 [] .full,.d (.int .i64 0),.d (.int .i64 0),.d (.int .i64 0),.d (.int .i64 0),.sl 1 [] .full,.d (.int .i64 0),.d (.int .i64 0),.sl 1 [] .full,.d (.int .i64 0),.d (.int .i64 0),.d (.int .i64 0),.d (.int .i64 0),.sl 1 [] .full,.sl 1 [] .full,.d (.int .i64 0),.sl 1 [] .full,.d (.str []),.d (.int .i64 0),.d (.int .i64 0),.d (.int .i64 0),.d (.int .i64 0),.d (.int .i64 0),.sl 1 [] .full,.d (.bool false),.d (.int .i64 0),.d (.int .i64 0),.d (.int .i64 0),.d (.int .i64 0),.sl 1 [] .full,.d (.int .i64 0)]⟩ .lf) 71 ⟨.struct [(0,1,false),(1,1,false),(2,60,true)],62,856,[.sl 1 [] .full,.d (.str []),.sl 5 [] .full,.sl 2 [] .full,.d (.str []),.sl 1 [] .full,.sl 1 [] .full,.sl 1 [] .full,.d (.int .i64 0),.d (.int .i64 0),.d (.bool false),.sl 5 [] .full,.d (.int .i64 0),.d (.int .i64 0),.sl 5 [] .full,.d (.int .i64 0),.sl 1 [] .full,.sl 1 [] .full,.sl 1 [] .full,.sl 1 [] .full,.sl 1 [] .full,.d (.bool false),.d (.int .i64 0),.d (.int .i64 0),.d (.int .i64 0),.d (.bool false),.d (.bool false),.d (.bool false),.d (.int .i64 0),.d (.bool false),.sl 1 [] .full,.sl 1 [] .full,.d (.int .i64 0),.d (.int .i64 0),.d (.int .i64 0),.d (.int .i64 0),.sl 1 [] .full,.d (.int .i64 0),.d (.int .i64 0),.sl 1 [] .full,.d (.int .i64 0),.d (.int .i64 0),.d (.int .i64 0),.d (.int .i64 0),.sl 1 [] .full,.sl 1 [] .full,.d (.int .i64 0),.sl 1 [] .full,.d (.str []),.d (.int .i64 0),.d (.int .i64 0),.d (.int .i64 0),.d (.int .i64 0),.d (.int .i64 0),.sl 1 [] .full,.d (.bool false),.d (.int .i64 0),.d (.int .i64 0),.d (.int .i64 0),.d (.int .i64 0),.sl 1 [] .full,.d (.int .i64 0)]⟩ .lf) 72 ⟨.int .i64,1,8,[.d (.int .i64 0)]⟩ (.nd (.nd .lf 82 ⟨.ptr,1,8,[.nilp]⟩ .lf) 87 ⟨.fn,1,8,[.nilf]⟩ .lf))) 92 ⟨.struct [(0,1,false),(1,1,false),(2,1,false),(3,1,false),(4,1,false)],5,48,[.d (.str []),.d (.int .i64 0),.d (.int .i64 0),.d (.int .i64 0),.d (.int .i64 0)]⟩ (.nd (.nd (.nd (.nd .lf 96 ⟨.ptr,1,8,[.nilp]⟩ .lf) 97 ⟨.ptr,1,8,[.nilp]⟩ .lf) 98 ⟨.slice 36,1,24,[.sl 1 [] .full]⟩ (.nd (.nd .lf 100 ⟨.struct [(0,1,false),(1,1,false),(2,1,false),(3,1,false),(4,1,false),(5,1,false),(6,1,false),(7,1,false),(8,1,false),(9,1,false),(10,1,false),(11,1,false)],12,184,[.d (.int .i64 0),.d (.str []),.d (.str []),.d (.str []),.d (.str []),.d (.str []),.d (.str []),.d (.str []),.d (.str []),.d (.str []),.d (.str []),.d (.str [])]⟩ .lf) 102 ⟨.struct [(0,12,true),(12,1,false),(13,1,false),(14,1,false),(15,1,false),(16,1,false),(17,1,false),(18,1,false),(19,1,false),(20,1,false),(21,1,false),(22,1,false),(23,1,false),(24,2,true),(26,12,true)],38,640,[.d (.str []),.d (.str []),.d (.str []),.d (.str []),.d (.str []),.d (.str []),.d (.int .i64 0),.sl 1 [] .full,.d (.bool false),.sl 5 [] .full,.d (.int .i64 0),.sl 1 [] .full,.nilp,.d (.int .i64 0),.sl 1 [] .full,.sl 1 [] .full,.sl 1 [] .full,.d (.int .i64 0),.d (.int .i64 0),.sl 1 [] .full,.d (.str []),.sl 5 [] .full,.sl 1 [] .full,.sl 1 [] .full,.sl 5 [] .full,.sl 2 [] .full,.d (.int .i64 0),.d (.str []),.d (.str []),.d (.str []),.d (.str []),.d (.str []),.d (.str []),.d (.str []),.d (.str []),.d (.str []),.d (.str []),.d (.str [])]⟩ .lf)) 103 ⟨.fn,1,8,[.nilf]⟩ (.nd (.nd (.nd .lf 104 ⟨.slice 103,1,24,[.sl 1 [] .full]⟩ .lf) 114 ⟨.ptr,1,8,[.nilp]⟩ .lf) 116 ⟨.struct [(0,1,false),(1,1,false),(2,1,false)],3,56,[.sl 1 [] .full,.sl 1 [] .full,.d (.int .i64 0)]⟩ (.nd (.nd .lf 132 ⟨.slice 292,1,24,[.sl 2 [] .full]⟩ .lf) 134 ⟨.struct [(0,1,false),(1,1,false),(2,1,false),(3,2,true)],5,72,[.d (.int .i64 0),.sl 2 [] .full,.sl 1 [] .full,.d (.int .i64 0),.d (.int .i64 0)]⟩ .lf))))) 153 ⟨.struct [(0,1,false),(1,1,false)],2,32,[.sl 1 [] .full,.d (.int .i64 0)]⟩ (.nd (.nd (.nd (.nd (.nd (.nd .lf 156 ⟨.ptr,1,8,[.nilp]⟩ .lf) 160 ⟨.struct [(0,1,false),(1,1,false),(2,1,false)],3,56,[.d (.int .i64 0),.sl 11 [] .full,.sl 1 [] .full]⟩ (.nd .lf 166 ⟨.struct [(0,1,false),(1,1,false),(2,1,false),(3,1,false),(4,1,false)],5,56,[.d (.int .i64 0),.d (.int .i64 0),.d (.int .i64 0),.d (.str []),.d (.str [])]⟩ .lf)) 173 ⟨.struct [(0,1,false),(1,1,false),(2,1,false),(3,1,false),(4,1,false)],5,40,[.d (.int .i64 0),.d (.int .i64 0),.d (.int .i64 0),.d (.int .i64 0),.d (.int .i64 0)]⟩ (.nd (.nd .lf 178 ⟨.struct [(0,1,false),(1,1,false),(2,1,false),(3,1,false),(4,1,false),(5,1,false),(6,1,false)],7,72,[.d (.int .i64 0),.d (.int .i64 0),.d (.int .i64 0),.d (.int .i64 0),.d (.int .i64 0),.d (.int .i64 0),.sl 1 [] .full]⟩ .lf) 180 ⟨.slice 178,1,24,[.sl 7 [] .full]⟩ .lf)) 181 ⟨.ptr,1,8,[.nilp]⟩ (.nd (.nd (.nd .lf 186 ⟨.struct [(0,1,false),(1,1,false)],2,48,[.sl 1 [] .full,.sl 5 [] .full]⟩ .lf) 187 ⟨.slice 222,1,24,[.sl 3 [] .full]⟩ .lf) 193 ⟨.struct [(0,1,false),(1,1,false)],2,16,[.d (.int .i64 0),.d (.int .i64 0)]⟩ (.nd (.nd .lf 195 ⟨.struct [(0,1,false),(1,1,false),(2,1,false),(3,2,true)],5,56,[.d (.int .i64 0),.d (.int .i64 0),.sl 1 [] .full,.d (.int .i64 0),.d (.int .i64 0)]⟩ .lf) 200 ⟨.struct [(0,1,false),(1,1,false),(2,1,false),(3,2,true)],5,72,[.d (.int .i64 0),.d (.int .i64 0),.sl 1 [] .full,.sl 5 [] .full,.d (.int .i64 0)]⟩ .lf))) 216 ⟨.array 2 9,2,32,[.d (.str []),.d (.str [])]⟩ (.nd (.nd (.nd (.nd .lf 217 ⟨.array 4 3,4,32,[.d (.int .i64 0),.d (.int .i64 0),.d (.int .i64 0),.d (.int .i64 0)]⟩ .lf) 222 ⟨.struct [(0,1,false),(1,1,false),(2,1,false)],3,56,[.d (.int .i64 0),.sl 1 [] .full,.sl 3 [] .full]⟩ (.nd .lf 247 ⟨.array 3 3,3,24,[.d (.int .i64 0),.d (.int .i64 0),.d (.int .i64 0)]⟩ .lf)) 249 ⟨.struct [(0,1,false),(1,1,false),(2,1,false)],3,24,[.d (.int .i64 0),.d (.int .i64 0),.d (.int .i64 0)]⟩ (.nd (.nd .lf 250 ⟨.array 15 249,45,360,[.d (.int .i64 0),.d (.int .i64 0),.d (.int .i64 0),.d (.int .i64 0),.d (.int .i64 0),.d (.int .i64 0),.d (.int .i64 0),.d (.int .i64 0),.d (.int .i64 0),.d (.int .i64 0),.d (.int .i64 0),.d (.int .i64 0),.d (.int .i64 0),.d (.int .i64 0),.d (.int .i64 0),.d (.int .i64 0),.d (.int .i64 0),.d (.int .i64 0),.d (.int .i64 0),.d (.int .i64 0),.d (.int .i64 0),.d (.int .i64 0),.d (.int .i64 0),.d (.int .i64 0),.d (.int .i64 0),.d (.int .i64 0),.d (.int .i64 0),.d (.int .i64 0),.d (.int .i64 0),.d (.int .i64 0),.d (.int .i64 0),.d (.int .i64 0),.d (.int .i64 0),.d (.int .i64 0),.d (.int .i64 0),.d (.int .i64 0),.d (.int .i64 0),.d (.int .i64 0),.d (.int .i64 0),.d (.int .i64 0),.d (.int .i64 0),.d (.int .i64 0),.d (.int .i64 0),.d (.int .i64 0),.d (.int .i64 0)]⟩ .lf) 253 ⟨.ptr,1,8,[.nilp]⟩ .lf)) 255 ⟨.struct [(0,45,true),(45,1,false)],46,384,[.d (.int .i64 0),.d (.int .i64 0),.d (.int .i64 0),.d (.int .i64 0),.d (.int .i64 0),.d (.int .i64 0),.d (.int .i64 0),.d (.int .i64 0),.d (.int .i64 0),.d (.int .i64 0),.d (.int .i64 0),.d (.int .i64 0),.d (.int .i64 0),.d (.int .i64 0),.d (.int .i64 0),.d (.int .i64 0),.d (.int .i64 0),.d (.int .i64 0),.d (.int .i64 0),.d (.int .i64 0),.d (.int .i64 0),.d (.int .i64 0),.d (.int .i64 0),.d (.int .i64 0),.d (.int .i64 0),.d (.int .i64 0),.d (.int .i64 0),.d (.int .i64 0),.d (.int .i64 0),.d (.int .i64 0),.d (.int .i64 0),.d (.int .i64 0),.d (.int .i64 0),.d (.int .i64 0),.d (.int .i64 0),.d (.int .i64 0),.d (.int .i64 0),.d (.int .i64 0),.d (.int .i64 0),.d (.int .i64 0),.d (.int .i64 0),.d (.int .i64 0),.d (.int .i64 0),.d (.int .i64 0),.d (.int .i64 0),.sl 1 [] .full]⟩ (.nd (.nd (.nd .lf 266 ⟨.array 18 3,18,144,[.d (.int .i64 0),.d (.int .i64 0),.d (.int .i64 0),.d (.int .i64 0),.d (.int .i64 0),.d (.int .i64 0),.d (.int .i64 0),.d (.int .i64 0),.d (.int .i64 0),.d (.int .i64 0),.d (.int .i64 0),.d (.int .i64 0),.d (.int .i64 0),.d (.int .i64 0),.d (.int .i64 0),.d (.int .i64 0),.d (.int .i64 0),.d (.int .i64 0)]⟩ .lf) 276 ⟨.ptr,1,8,[.nilp]⟩ .lf) 277 ⟨.slice 276,1,24,[.sl 1 [] .full]⟩ (.nd (.nd .lf 290 ⟨.array 17 3,17,136,[.d (.int .i64 0),.d (.int .i64 0),.d (.int .i64 0),.d (.int .i64 0),.d (.int .i64 0),.d (.int .i64 0),.d (.int .i64 0),.d (.int .i64 0),.d (.int .i64 0),.d (.int .i64 0),.d (.int .i64 0),.d (.int .i64 0),.d (.int .i64 0),.d (.int .i64 0),.d (.int .i64 0),.d (.int .i64 0),.d (.int .i64 0)]⟩ .lf) 292 ⟨.struct [(0,1,false),(1,1,false)],2,32,[.d (.int .i64 0),.sl 1 [] .full]⟩ .lf)))) 298 ⟨.int .u64,1,8,[.d (.int .u64 0)]⟩ (.nd (.nd (.nd (.nd (.nd .lf 301 ⟨.ptr,1,8,[.nilp]⟩ .lf) 303 ⟨.struct [(0,1,false),(1,1,false)],2,32,[.nilp,.sl 1 [] .full]⟩ (.nd .lf 316 ⟨.fn,1,8,[.nilf]⟩ .lf)) 318 ⟨.struct [(0,1,false),(1,1,false),(2,1,false),(3,1,false)],4,48,[.sl 1 [] .full,.d (.int .i64 0),.d (.bool false),.d (.int .i64 0)]⟩ (.nd (.nd .lf 321 ⟨.ptr,1,8,[.nilp]⟩ .lf) 333 ⟨.fn,1,8,[.nilf]⟩ .lf)) 337 ⟨.slice 341,1,24,[.sl 1 [] .full]⟩ (.nd (.nd (.nd .lf 341 ⟨.int .u32,1,4,[.d (.int .u32 0)]⟩ .lf) 345 ⟨.array 12 3,12,96,[.d (.int .i64 0),.d (.int .i64 0),.d (.int .i64 0),.d (.int .i64 0),.d (.int .i64 0),.d (.int .i64 0),.d (.int .i64 0),.d (.int .i64 0),.d (.int .i64 0),.d (.int .i64 0),.d (.int .i64 0),.d (.int .i64 0)]⟩ .lf) 351 ⟨.int .u64,1,8,[.d (.int .u64 0)]⟩ (.nd (.nd .lf 358 ⟨.struct [(0,1,false),(1,1,false)],2,16,[.d (.int .i64 0),.d (.int .i64 0)]⟩ .lf) 359 ⟨.slice 358,1,24,[.sl 2 [] .full]⟩ .lf))) 362 ⟨.ptr,1,8,[.nilp]⟩ (.nd (.nd (.nd (.nd .lf 368 ⟨.fn,1,8,[.nilf]⟩ .lf) 372 ⟨.array 2 5,2,2,[.d (.int .u8 0),.d (.int .u8 0)]⟩ .lf) 373 ⟨.array 7 372,14,14,[.d (.int .u8 0),.d (.int .u8 0),.d (.int .u8 0),.d (.int .u8 0),.d (.int .u8 0),.d (.int .u8 0),.d (.int .u8 0),.d (.int .u8 0),.d (.int .u8 0),.d (.int .u8 0),.d (.int .u8 0),.d (.int .u8 0),.d (.int .u8 0),.d (.int .u8 0)]⟩ (.nd (.nd .lf 374 ⟨.fn,1,8,[.nilf]⟩ .lf) 379 ⟨.fn,1,8,[.nilf]⟩ .lf)) 380 ⟨.array 64 341,64,256,[.d (.int .u32 0),.d (.int .u32 0),.d (.int .u32 0),.d (.int .u32 0),.d (.int .u32 0),.d (.int .u32 0),.d (.int .u32 0),.d (.int .u32 0),.d (.int .u32 0),.d (.int .u32 0),.d (.int .u32 0),.d (.int .u32 0),.d (.int .u32 0),.d (.int .u32 0),.d (.int .u32 0),.d (.int .u32 0),.d (.int .u32 0),.d (.int .u32 0),.d (.int .u32 0),.d (.int .u32 0),.d (.int .u32 0),.d (.int .u32 0),.d (.int .u32 0),.d (.int .u32 0),.d (.int .u32 0),.d (.int .u32 0),.d (.int .u32 0),.d (.int .u32 0),.d (.int .u32 0),.d (.int .u32 0),.d (.int .u32 0),.d (.int .u32 0),.d (.int .u32 0),.d (.int .u32 0),.d (.int .u32 0),.d (.int .u32 0),.d (.int .u32 0),.d (.int .u32 0),.d (.int .u32 0),.d (.int .u32 0),.d (.int .u32 0),.d (.int .u32 0),.d (.int .u32 0),.d (.int .u32 0),.d (.int .u32 0),.d (.int .u32 0),.d (.int .u32 0),.d (.int .u32 0),.d (.int .u32 0),.d (.int .u32 0),.d (.int .u32 0),.d (.int .u32 0),.d (.int .u32 0),.d (.int .u32 0),.d (.int .u32 0),.d (.int .u32 0),.d (.int .u32 0),.d (.int .u32 0),.d (.int .u32 0),.d (.int .u32 0),.d (.int .u32 0),.d (.int .u32 0),.d (.int .u32 0),.d (.int .u32 0)]⟩ (.nd (.nd (.nd .lf 390 ⟨.ptr,1,8,[.nilp]⟩ .lf) 401 ⟨.array 8 341,8,32,[.d (.int .u32 0),.d (.int .u32 0),.d (.int .u32 0),.d (.int .u32 0),.d (.int .u32 0),.d (.int .u32 0),.d (.int .u32 0),.d (.int .u32 0)]⟩ .lf) 413 ⟨.struct [(0,1,false),(1,1,false)],2,2,[.d (.int .u8 0),.d (.int .u8 0)]⟩ (.nd (.nd .lf 414 ⟨.array 16 413,32,32,[.d (.int .u8 0),.d (.int .u8 0),.d (.int .u8 0),.d (.int .u8 0),.d (.int .u8 0),.d (.int .u8 0),.d (.int .u8 0),.d (.int .u8 0),.d (.int .u8 0),.d (.int .u8 0),.d (.int .u8 0),.d (.int .u8 0),.d (.int .u8 0),.d (.int .u8 0),.d (.int .u8 0),.d (.int .u8 0),.d (.int .u8 0),.d (.int .u8 0),.d (.int .u8 0),.d (.int .u8 0),.d (.int .u8 0),.d (.int .u8 0),.d (.int .u8 0),.d (.int .u8 0),.d (.int .u8 0),.d (.int .u8 0),.d (.int .u8 0),.d (.int .u8 0),.d (.int .u8 0),.d (.int .u8 0),.d (.int .u8 0),.d (.int .u8 0)]⟩ .lf) 418 ⟨.array 0 16,0,0,[]⟩ .lf))))))
theorem hT:TOk Tryz.prog T:=⟨by kernel_rfl⟩
theorem mixed:Tryz.prog.follows .mixedOrders=true:=by kernel_rfl
structure Box (p:Prop):Prop where
 out:p
theorem ww {g n:Prop} (k:n) (h:Box n→g:=by intro hk;(repeat (first | refine wk hT rfl rfl ?_ | refine wd hT rfl rfl rfl ?_ | refine wz hT rfl ?_ | refine qOx ?_ | refine qDq ?_ | refine wh hT rfl rfl rfl rfl ?_ | refine wg hT rfl rfl rfl rfl rfl ?_ | refine qAl ?_ | refine qAf ?_ | refine wx mixed ?_ | refine qDt ?_ | refine qBw ?_ | refine qLs ?_ | refine qQu ?_));exact hk.out):g:=h ⟨k⟩
theorem wwn {g n:Prop} (k:n) (h:Box n→g:=by intro hk;(repeat (first | refine wk hT rfl rfl ?_ | refine wd hT rfl rfl rfl ?_ | refine wz hT rfl ?_ | refine qOx ?_ | refine qDq ?_ | refine wh hT rfl rfl rfl rfl ?_ | refine wg hT rfl rfl rfl rfl rfl ?_ | refine qAl ?_ | refine qAf ?_ | refine qDt ?_ | refine qBw ?_ | refine qLs ?_ | refine qQu ?_));exact hk.out):g:=h ⟨k⟩
theorem wwg {g n:Prop} (k:n) (h:Box n→g:=by intro hk;(repeat (first | refine qSx hT rfl rfl rfl rfl (by first | exact List.mem_cons_self | exact sm) rfl ?_ | refine qBt hT (fun _=>rfl) rfl rfl (by first | exact True.intro | omega | exact sd) ?_ | refine vFr hT rfl rfl rfl (by first | exact List.mem_cons_self | exact sm) rfl ?_ | refine qOx ?_));exact hk.out):g:=h ⟨k⟩
theorem wws {g n:Prop} (k:n) (h:Box n→g:=by intro hk;(repeat (first | refine wk hT rfl rfl ?_ | refine wd hT rfl rfl rfl ?_ | refine wz hT rfl ?_ | refine qOx ?_ | refine qDq ?_ | refine wh hT rfl rfl rfl rfl ?_ | refine wg hT rfl rfl rfl rfl rfl ?_));exact hk.out):g:=h ⟨k⟩
theorem wwe {g n:Prop} (k:n) (h:Box n→g:=by intro hk;(repeat (first | refine qLs ?_ | refine qBw ?_));exact hk.out):g:=h ⟨k⟩
theorem wwr {g:Prop} (h:g:=by (first | exact rx ⟨rfl,rfl⟩ | exact rxN ⟨rfl,rfl⟩ | (refine rq ⟨rfl,rfl⟩ rfl ?_;repeat (first | exact trivial | exact AV.le.refl _ | exact AV.le.dat | exact AV.le.nils | exact AV.le.nilsf | exact AV.le.any _ | exact ObLe.refl _ | exact ⟨rfl,rfl⟩ | refine AV.le.tup ?_ | refine AV.le.agg ?_ | exact li | exact lb | exact ls | exact lk | exact ld | exact lz | refine ⟨?_,?_⟩)) | (refine rqN ⟨rfl,rfl⟩ rfl ?_;repeat (first | exact trivial | exact AV.le.refl _ | exact AV.le.dat | exact AV.le.nils | exact AV.le.nilsf | exact AV.le.any _ | exact ObLe.refl _ | exact ⟨rfl,rfl⟩ | refine AV.le.tup ?_ | refine AV.le.agg ?_ | exact li | exact lb | exact ls | exact lk | exact ld | exact lz | refine ⟨?_,?_⟩)))):g:=h
theorem wwc {A g n:Prop} (S:A) (k:n) (h:A→Box n→g:=by intro S hk;(first | refine qAd (qBl rfl rfl (S) rfl rfl rfl) rfl ?_ | refine qBc (qBl rfl rfl (S) rfl rfl rfl) rfl rfl ?_ | refine qAd (qKa rfl rfl (S) rfl (by repeat (first | exact trivial | exact AV.le.refl _ | exact AV.le.dat | exact AV.le.nils | exact AV.le.nilsf | exact AV.le.any _ | exact ObLe.refl _ | exact ⟨rfl,rfl⟩ | refine AV.le.tup ?_ | refine AV.le.agg ?_ | exact li | exact lb | exact ls | exact lk | exact ld | exact lz | refine ⟨?_,?_⟩)) rfl rfl) rfl ?_ | refine qBc (qKa rfl rfl (S) rfl (by repeat (first | exact trivial | exact AV.le.refl _ | exact AV.le.dat | exact AV.le.nils | exact AV.le.nilsf | exact AV.le.any _ | exact ObLe.refl _ | exact ⟨rfl,rfl⟩ | refine AV.le.tup ?_ | refine AV.le.agg ?_ | exact li | exact lb | exact ls | exact lk | exact ld | exact lz | refine ⟨?_,?_⟩)) rfl rfl) rfl rfl ?_);exact hk.out):g:=h S ⟨k⟩
theorem wwx {A g n:Prop} (S:A) (k:n) (h:A→Box n→g:=by intro S hk;(refine vFq (callX0 rfl rfl (S) rfl (by repeat (first | exact trivial | exact AV.le.refl _ | exact AV.le.dat | exact AV.le.nils | exact AV.le.nilsf | exact AV.le.any _ | exact ObLe.refl _ | exact ⟨rfl,rfl⟩ | refine AV.le.tup ?_ | refine AV.le.agg ?_ | exact li | exact lb | exact ls | exact lk | exact ld | exact lz | refine ⟨?_,?_⟩)) rfl (fun _=>rfl)) rfl ?_);exact hk.out):g:=h S ⟨k⟩
theorem wwgc {A g n:Prop} (S:A) (k:n) (h:A→Box n→g:=by intro S hk;(first | refine qCh rfl rfl rfl (fun hg=>⟨(sg (C:=True) hg).1,qBl rfl rfl (S) rfl rfl rfl⟩) ?_ | refine qDr rfl rfl rfl rfl (fun hg=>⟨(sg (C:=True) hg).1,qBl rfl rfl (S) rfl rfl rfl⟩) ?_);exact hk.out):g:=h S ⟨k⟩
theorem wwdc {A g n:Prop} (S:A) (k:n) (h:A→Box n→g:=by intro S hk;(first | refine qAk (os:=[]) (fun k hk1 hk2=>qBl rfl rfl (S) rfl rfl rfl) rfl ?_ | refine qAk (os:=[]) (fun k hk1 hk2=>qKa rfl rfl (S) rfl (by repeat (first | exact trivial | exact AV.le.refl _ | exact AV.le.dat | exact AV.le.nils | exact AV.le.nilsf | exact AV.le.any _ | exact ObLe.refl _ | exact ⟨rfl,rfl⟩ | refine AV.le.tup ?_ | refine AV.le.agg ?_ | exact li | exact lb | exact ls | exact lk | exact ld | exact lz | refine ⟨?_,?_⟩)) rfl rfl) rfl ?_);exact hk.out):g:=h S ⟨k⟩
theorem wwi {A g n:Prop} (S:A) (k:n) (h:A→Box n→g:=by intro S hk;(first | refine qAd (qAc (indexAddr_ok hT rfl rfl rfl rfl (by omega) (S))) rfl ?_ | refine qBc (qAc (indexAddr_ok hT rfl rfl rfl rfl (by omega) (S))) rfl rfl ?_);exact hk.out):g:=h S ⟨k⟩
theorem wwgi {A g n:Prop} (S:A) (k:n) (h:A→Box n→g:=by intro S hk;(first | refine qCh rfl rfl rfl (fun hg=>⟨(sg (C:=True) hg).1,qAc (indexAddr_ok hT rfl rfl rfl rfl (by omega) (S))⟩) ?_ | refine qDr rfl rfl rfl rfl (fun hg=>⟨(sg (C:=True) hg).1,qAc (indexAddr_ok hT rfl rfl rfl rfl (by omega) (S))⟩) ?_);exact hk.out):g:=h S ⟨k⟩
theorem wwk {A g n:Prop} (S:A) (k:n) (h:A→Box n→g:=by intro S hk;(repeat (first | refine qDr (v:=.d (.bool false)) rfl rfl rfl rfl (fun hg=>absurd hg (by rw [S];simp [gval])) ?_ | refine qCh (v:=.d (.bool false)) rfl rfl rfl (fun hg=>absurd hg (by rw [S];simp [gval])) ?_ | refine wk hT rfl rfl ?_ | refine wd hT rfl rfl rfl ?_ | refine wz hT rfl ?_ | refine qOx ?_ | refine qDq ?_ | refine wh hT rfl rfl rfl rfl ?_ | refine wg hT rfl rfl rfl rfl rfl ?_ | refine qAl ?_ | refine qAf ?_ | refine wx mixed ?_ | refine qDt ?_ | refine qBw ?_ | refine qLs ?_ | refine qQu ?_));exact hk.out):g:=h S ⟨k⟩
def qAj (s:List UInt8):List (List Dat):=s.map fun b=>[.int .u8 (b.toNat:Int)]
theorem encB_length (s:List UInt8):(qAj s).length=s.length:=by simp [qAj]
theorem encB_append (a b:List UInt8):qAj (a++b)=qAj a++qAj b:=by simp [qAj]
theorem encB_at {s:List UInt8} {i:Nat} (h:i < s.length):(qAj s)[i]?=some [.int .u8 (s[i].toNat:Int)]:=by simp [qAj,h]
theorem encB_take (s:List UInt8) (i:Nat):(qAj s).take i=qAj (s.take i):=by simp [qAj,List.map_take]
theorem encB_drop (s:List UInt8) (i:Nat):(qAj s).drop i=qAj (s.drop i):=by simp [qAj,List.map_drop]
inductive Node where
 | mk (tag:Int) (val:List UInt8) (kids:List Node)
mutual
def qIc:Node→List Dat
 | .mk t v k=>[.int .i64 t,.sl 1 (qAj v),.sl 3 (encNs k)]
def encNs:List Node→List (List Dat)
 | []=>[]
 | a::l=>qIc a::encNs l
end
def nAV (n:Node):AV:=.agg ((qIc n).map .d)
theorem encNs_eq:∀ (l:List Node),encNs l=l.map qIc
 | []=>rfl
 | a::l=>by simp [encNs,encNs_eq l]
theorem encNs_length (l:List Node):(encNs l).length=l.length:=by rw [encNs_eq];simp
theorem encNs_append (a b:List Node):encNs (a++b)=encNs a++encNs b:=by simp [encNs_eq]
def qCs (t:Int):Bool :=
 if t < 256 then decide (0 < t)&&!(t % 32 == 31) else decide (t < 65536)&&(t / 256 % 32 == 31)&&decide (1≤t % 256)&&decide (t % 256≤127)
def qBd (t:Int):Bool:=qCs t&&((if t > 255 then t / 256 else t) / 32 % 2 == 1)
theorem tagOk_range {t:Int} (h:qCs t=true):0 < t∧t < 65536:=by
 unfold qCs at h
 split at h
 ·simp at h;omega
 ·simp at h;omega
mutual
def qGm (d:Nat):Node→Nat→Int×Nat
 | .mk t v k,c =>
  if qCs t=false then (4,c+1)
  else if (qBd t=false∧k≠[])∨(qBd t=true∧v≠[]) then (1,c+1)
  else if 8 < d then (7,c+1)
  else qDz (d+1) k (c+1)
def qDz (d:Nat):List Node→Nat→Int×Nat
 | [],c=>(0,c)
 | a::l,c=>if (qGm d a c).1=0 then qDz d l (qGm d a c).2 else qGm d a c
end
mutual
def qCg:Node→Nat
 | .mk _ _ k=>1+qAu k
def qAu:List Node→Nat
 | []=>0
 | a::l=>qCg a+qAu l
end
mutual
theorem chkN_count (d:Nat):∀ (n:Node) (c:Nat),(qGm d n c).2≤c+qCg n∧((qGm d n c).1=0→(qGm d n c).2=c+qCg n)
 | .mk t v k,c=>by
  have hk:=chkL_count (d+1) k (c+1)
  rw [qGm,qCg]
  split
  ·exact ⟨by simp only;omega,fun h=>by simp at h⟩
  ·split
   ·exact ⟨by simp only;omega,fun h=>by simp at h⟩
   ·split
    ·exact ⟨by simp only;omega,fun h=>by simp at h⟩
    ·exact ⟨by omega,fun h=>by have:=hk.2 h;omega⟩
theorem chkL_count (d:Nat):∀ (l:List Node) (c:Nat),(qDz d l c).2≤c+qAu l∧((qDz d l c).1=0→(qDz d l c).2=c+qAu l)
 | [],c=>by simp [qDz,qAu]
 | a::l,c=>by
  have ha:=chkN_count d a c
  have hl:=chkL_count d l (qGm d a c).2
  rw [qDz,qAu]
  split
  ·rename_i h0
   have:=ha.2 h0
   exact ⟨by omega,fun h=>by have:=hl.2 h;omega⟩
  ·rename_i h0
   exact ⟨by omega,fun h=>absurd h h0⟩
end
def qZc:Nat→Nat→List UInt8
 | 0,_=>[]
 | m+1,n=>if n=0 then [] else UInt8.ofNat (n % 256)::qZc m (n / 256)
theorem digL_zero (m:Nat):qZc m 0=[]:=by cases m <;> simp [qZc]
theorem digL_length:∀ (m n:Nat),(qZc m n).length≤m
 | 0,_=>Nat.le_refl _
 | m+1,n=>by
  rw [qZc]
  split
  ·simp
  ·have:=digL_length m (n / 256);simp;omega
def digs (m n:Nat):List UInt8:=(qZc m n).reverse
def qQa (n:Nat):List UInt8:=if n < 128 then [UInt8.ofNat n] else UInt8.ofNat (128+(digs 8 n).length)::digs 8 n
def qLe (t:Int):List UInt8:=if t > 255 then [UInt8.ofNat (t / 256 % 256).toNat,UInt8.ofNat (t % 256).toNat] else [UInt8.ofNat (t % 256).toNat]
mutual
def wrN:Node→List UInt8
 | .mk t v k=>qLe t++qQa (if qBd t=true then wrL k else v).length++(if qBd t=true then wrL k else v)
def wrL:List Node→List UInt8
 | []=>[]
 | a::l=>wrN a++wrL l
end
def qBj (l:List Node):List UInt8×Int :=
 if (qDz 1 l 0).1≠0 then ([],(qDz 1 l 0).1)
 else if (qDz 1 l 0).2 > 256 then ([],2)
 else if (wrL l).length > 4096 then ([],2)
 else (wrL l,0)
def tagTab:List Int:=[97,117,99,118,101,102,103,104,105,106,107,108,109,110,111,112,96,119]
def tagD:List Dat:=tagTab.map fun x=>.int .i64 x
def qMr (n:Int):Int×Int:=if n < 1∨n > 18 then (0,3) else ((tagTab[(n-1).toNat]?).getD 0,0)
def qIm (t:Int):Nat→List Int→Int×Int
 | _,[]=>(0,4)
 | i,x::r=>if x=t then (((i+1:Nat):Int),0) else qIm t (i+1) r
def qKr (t:Int):Int×Int:=qIm t 0 tagTab
theorem tagD_at {i:Nat} (h:i < 18):∃ x:Int,tagTab[i]?=some x∧(tagD.drop i)[0]?=some (.int .i64 x)∧tagTab.drop i=x::tagTab.drop (i+1):=by
 have h':i < tagTab.length:=by simpa [tagTab] using h
 exact ⟨tagTab[i],by simp [h'],by simp [tagD,h'],by simp [h']⟩
set_option maxRecDepth 100000 in
theorem vHy (n:Int) (hw : -9223372036854775808≤n∧n≤9223372036854775807):Spec Tryz.prog 269 [.I n] [] (fun r h'=>r=.tup [.d (.int .i64 (qMr n).1),.d (.int .i64 (qMr n).2)]∧h'=[]):=by
 refine qAb hT Tryz.func269 rfl rfl rfl rfl ?_
 intro E hE
 refine ww ?_
 refine qAa rfl (fun h1=>?_) (fun h1=>?_)
 ·have h1':n < 1∨n > 18:=by simpa using h1
  rw [show qMr n=(0,3) by unfold qMr;rw [if_pos h1']]
  refine ww ?_
  exact qAg rfl (.refl _) rfl rfl rfl rfl ⟨rfl,rfl⟩
 ·have h1':¬ (n < 1∨n > 18):=by simpa using h1
  have hwr:IntKind.i64.wrap (n-1)=n-1:=qAe (by omega)
  obtain ⟨x,hx,hd,_⟩:=tagD_at (i:=(n-1).toNat) (by omega)
  rw [show qMr n=(x,0) by unfold qMr;rw [if_neg h1',hx];rfl]
  refine ww ?_
  refine qAd (qAc (arrAddr_ok (cs:=tagD) hT rfl rfl rfl rfl (by rw [hwr];omega))) rfl ?_
  rw [hwr,Nat.mul_one]
  generalize tagD.drop (n-1).toNat=cs at hd
  match cs,hd with
  | d::cs,hd =>
   simp only [List.getElem?_cons_zero,Option.some.injEq] at hd
   subst hd
   refine ww ?_
   exact qAg rfl (.refl _) rfl rfl rfl rfl ⟨rfl,rfl⟩
set_option maxHeartbeats 2000000 in
set_option maxRecDepth 100000 in
theorem vBp (t:Int):Spec Tryz.prog 190 [.I t] [] (fun r h'=>r=.tup [.d (.int .i64 (qKr t).1),.d (.int .i64 (qKr t).2)]∧h'=[]):=by
 refine qAb hT Tryz.func190 rfl rfl rfl rfl ?_
 intro E hE
 unfold qKr
 generalize hfin:qIm t 0 tagTab=fin
 refine ww ?_
 refine qAq (ι:=Nat) (fun i=>[(0,.I t),(6,.agg (tagD.map .d)),(7,.I (i:Int))]) (fun _=>[]) (fun i=>i≤18∧qIm t i (tagTab.drop i)=fin) (fun i=>18-i) 0 ⟨by omega,hfin⟩
  q1 (HLe.refl _) ?_
 intro i ⟨hi,hg⟩
 have hwr:IntKind.i64.wrap ((i:Int)+1)=((i+1:Nat):Int):=by rw [qAe (by omega)];simp
 refine ww ?_
 refine qAa rfl (fun h1=>?_) (fun h1=>?_)
 ·have hlt:i < 18:=by have h3:(i:Int) < 18:=by simpa using h1
                      omega
  obtain ⟨x,hx,_,hd⟩:=tagD_at hlt
  rw [hd,qIm] at hg
  have hxa:(tagD.map AV.d)[((i:Int)).toNat]?=some (.I x):=by simp [tagD,hx]
  refine ww ?_
  refine qAd (qAc (arrIdx_ok (cs:=tagD.map AV.d) hT rfl rfl rfl rfl (by omega) hxa)) rfl ?_
  refine ww ?_
  refine qAa rfl (fun h2=>?_) (fun h2=>?_)
  ·have h2':x=t:=by simpa using h2
   rw [if_pos h2',← hwr] at hg
   subst hg
   refine ww ?_
   exact qAg rfl (.refl _) rfl rfl rfl rfl ⟨rfl,rfl⟩
  ·have h2':¬ x=t:=by simpa using h2
   rw [if_neg h2'] at hg
   refine ww ?_
   exact ⟨i+1,⟨by omega,hg⟩,by omega,⟨.refl _,.refl _,AV.le.eq (by show AV.d (.int .i64 (IntKind.i64.wrap ((i:Int)+1)))=_;rw [hwr]),trivial⟩,HLe.refl _⟩
 ·have hge:i=18:=by simp at h1;omega
  subst hge
  subst hg
  refine ww ?_
  exact qAg rfl (.refl _) rfl rfl rfl rfl ⟨rfl,rfl⟩
def qIa (n:Int):Int×Int×Int:=if n < 1∨n > 18 then (0,0,3) else if n=17 then (286,30,0) else if n=18 then (285,29,0) else (256+n,n,0)
set_option maxRecDepth 100000 in
theorem qFu (n:Int) (hw : -9223372036854775808≤n∧n≤9223372036854775807):Spec Tryz.prog 105 [.I n] [] (fun r h'=>r=.tup [.d (.int .i64 (qIa n).1),.d (.int .i64 (qIa n).2.1),.d (.int .i64 (qIa n).2.2)]∧h'=[]):=by
 refine qAb hT Tryz.func105 rfl rfl rfl rfl ?_
 intro E hE
 refine ww ?_
 refine qAa rfl (fun h1=>?_) (fun h1=>?_)
 ·have h1':n < 1∨n > 18:=by simpa using h1
  rw [show qIa n=(0,0,3) by unfold qIa;rw [if_pos h1']]
  refine ww ?_
  exact qAg rfl (.refl _) rfl rfl rfl rfl ⟨rfl,rfl⟩
 ·have h1':¬ (n < 1∨n > 18):=by simpa using h1
  refine ww ?_
  refine qAa rfl (fun h2=>?_) (fun h2=>?_)
  ·have h2':n=17:=by simpa using h2
   rw [show qIa n=(286,30,0) by unfold qIa;rw [if_neg h1',if_pos h2']]
   refine ww ?_
   exact qAg rfl (.refl _) rfl rfl rfl rfl ⟨rfl,rfl⟩
  ·have h2':¬ n=17:=by simpa using h2
   refine ww ?_
   refine qAa rfl (fun h3=>?_) (fun h3=>?_)
   ·have h3':n=18:=by simpa using h3
    rw [show qIa n=(285,29,0) by unfold qIa;rw [if_neg h1',if_neg h2',if_pos h3']]
    refine ww ?_
    exact qAg rfl (.refl _) rfl rfl rfl rfl ⟨rfl,rfl⟩
   ·have h3':¬ n=18:=by simpa using h3
    have hwr:IntKind.i64.wrap (256+n)=256+n:=qAe (by omega)
    rw [show qIa n=(256+n,n,0) by unfold qIa;rw [if_neg h1',if_neg h2',if_neg h3'],← hwr]
    refine ww ?_
    exact qAg rfl (.refl _) rfl rfl rfl rfl ⟨rfl,rfl⟩
theorem vNn (k:Nat) {n m:Nat} (hn:n < 9223372036854775808) (hm:m < 9223372036854775808) {q:Int} (hq:q=(m:Int)) :
  IntKind.i64.wrap ((BitVec.ofInt IntKind.i64.bits (n:Int) &&& BitVec.ofInt IntKind.i64.bits q).toNat:Int)=((n &&& m:Nat):Int):=by
 subst hq;exact qSh hn hm
set_option maxRecDepth 100000 in
theorem qNt (t:Int) (h0:0≤t) (h1:t≤9223372036854775807):Spec Tryz.prog 385 [.I t] [] (fun r h'=>r=.d (.bool (t % 32 == 31))∧h'=[]):=by
 obtain ⟨n,rfl⟩:=Int.eq_ofNat_of_zero_le h0
 have hand:=vNn 0 (n:=n) (m:=31) (q:=31) (by omega) (by omega) rfl
 have hm:=qRh n 5
 have e:((n:Int) % 32 == 31)=(IntKind.i64.wrap ((BitVec.ofInt IntKind.i64.bits (n:Int) &&& BitVec.ofInt IntKind.i64.bits 31).toNat:Int) == 31):=by
  rw [hand,show n &&& 31=n % 32 from hm];rfl
 rw [e]
 refine qAb hT Tryz.func385 rfl rfl rfl rfl ?_
 intro E hE
 refine ww ?_
 exact qAg rfl (.refl _) rfl rfl rfl rfl ⟨rfl,rfl⟩
set_option maxHeartbeats 2000000 in
set_option maxRecDepth 100000 in
theorem qJd (t:Int) (hw : -9223372036854775808≤t∧t≤9223372036854775807):Spec Tryz.prog 345 [.I t] [] (fun r h'=>r=.d (.bool (qCs t))∧h'=[]):=by
 refine qAb hT Tryz.func345 rfl rfl rfl rfl ?_
 intro E hE
 refine ww ?_
 refine qAa rfl (fun h1=>?_) (fun h1=>?_)
 ·have h1':t < 256:=by simpa using h1
  have hl:=fun (h:0≤t)=>qNt t h (by omega)
  refine ww ?_
  refine qCh rfl rfl rfl (fun hg=>⟨by first | exact True.intro | exact ⟨hg,True.intro⟩ | exact ⟨hg,hg,True.intro⟩,qBl rfl rfl (hl (by simp [gval] at hg;omega)) rfl rfl rfl⟩) ?_
  refine ww ?_
  refine qAg rfl (.refl _) rfl rfl rfl rfl ⟨congrArg (fun b=>AV.d (.bool b)) ?_,rfl⟩
  unfold qCs
  rw [if_pos h1']
 ·have h1':¬ t < 256:=by simpa using h1
  obtain ⟨n,rfl⟩:=Int.eq_ofNat_of_zero_le (show 0≤t by omega)
  have hshr:Int.fdiv (n:Int) (2 ^ (min (8:Int).toNat IntKind.i64.bits))=((n / 256:Nat):Int):=qDy n 8
  have hand:=vNn 0 (n:=n) (m:=255) (q:=255) (by omega) (by omega) rfl
  rw [show n &&& 255=n % 256 from qRh n 8] at hand
  have hl:=qNt ((n / 256:Nat):Int) (by omega) (by omega)
  rw [← hshr] at hl
  refine ww ?_
  refine qCh rfl rfl rfl (fun hg=>⟨by first | exact True.intro | exact ⟨hg,True.intro⟩ | exact ⟨hg,hg,True.intro⟩,qBl rfl rfl hl rfl rfl rfl⟩) ?_
  refine ww ?_
  refine qAg rfl (.refl _) rfl rfl rfl rfl ⟨congrArg (fun b=>AV.d (.bool b)) ?_,rfl⟩
  rw [hshr,hand]
  unfold qCs
  rw [if_neg h1',Bool.eq_iff_iff]
  simp
  omega
set_option maxHeartbeats 2000000 in
set_option maxRecDepth 100000 in
theorem qFk (t:Int) (hw : -9223372036854775808≤t∧t≤9223372036854775807):Spec Tryz.prog 344 [.I t] [] (fun r h'=>r=.d (.bool (qBd t))∧h'=[]):=by
 have hv:=qJd t hw
 refine qAb hT Tryz.func344 rfl rfl rfl rfl ?_
 intro E hE
 unfold qBd
 have hr:=tagOk_range (t:=t)
 generalize qCs t=ok at hv hr
 refine ww ?_
 refine qAd (qBl rfl rfl hv rfl rfl rfl) rfl ?_
 refine ww ?_
 refine qAa rfl (fun h1=>?_) (fun h1=>?_)
 ·have h1':ok=false:=by simpa using h1
  subst h1'
  refine ww ?_
  exact qAg rfl (.refl _) rfl rfl rfl rfl ⟨rfl,rfl⟩
 ·have h1':ok=true:=by simpa using h1
  obtain ⟨n,rfl⟩:=Int.eq_ofNat_of_zero_le (show 0≤t by have:=hr h1';omega)
  have hn:=hr h1'
  subst h1'
  have hbit:∀ m:Nat,m < 9223372036854775808→(IntKind.i64.wrap ((BitVec.ofInt IntKind.i64.bits (m:Int) &&& BitVec.ofInt IntKind.i64.bits 32).toNat:Int) != 0)=((m:Int) / 32 % 2 == 1):=fun m hm=>by
   rw [vNn 0 (n:=m) (m:=32) (q:=32) hm (by omega) rfl,show m &&& 32=32*(m / 32 % 2) from vKr m 5,Bool.eq_iff_iff]
   simp
   omega
  refine ww ?_
  refine qAa rfl (fun h2=>?_) (fun h2=>?_)
  ·have h2':(n:Int) > 255:=by simpa using h2
   have hshr:Int.fdiv (n:Int) (2 ^ (min (8:Int).toNat IntKind.i64.bits))=((n / 256:Nat):Int):=qDy n 8
   refine ww ?_
   refine qAg rfl (.refl _) rfl rfl rfl rfl ⟨congrArg (fun b=>AV.d (.bool b)) ?_,rfl⟩
   rw [hshr,hbit _ (by omega),if_pos h2']
   rfl
  ·have h2':¬ (n:Int) > 255:=by simpa using h2
   refine ww ?_
   refine qAg rfl (.refl _) rfl rfl rfl rfl ⟨congrArg (fun b=>AV.d (.bool b)) ?_,rfl⟩
   rw [hbit _ (by omega),if_neg h2']
   rfl
set_option maxHeartbeats 2000000 in
set_option maxRecDepth 100000 in
theorem qOl (t:Int) (hw : -9223372036854775808≤t∧t≤9223372036854775807):Spec Tryz.prog 314 [.I t] [] (fun r h'=>r=.d (.bool (qCs t))∧h'=[]):=by
 refine qAb hT Tryz.func314 rfl rfl rfl rfl ?_
 intro E hE
 refine ww ?_
 refine qAa rfl (fun h1=>?_) (fun h1=>?_)
 ·have h1':1≤t∧t≤255:=by simpa using h1
  refine ww ?_
  refine qAg rfl (.refl _) rfl rfl rfl rfl ⟨congrArg (fun b=>AV.d (.bool b)) ?_,rfl⟩
  unfold qCs
  rw [if_pos (by omega),Int.tmod_eq_emod_of_nonneg (by omega),Bool.eq_iff_iff]
  simp
  omega
 ·have h1':¬ (1≤t∧t≤255):=by simp at h1;omega
  refine ww ?_
  refine qAg rfl (.refl _) rfl rfl rfl rfl ⟨congrArg (fun b=>AV.d (.bool b)) ?_,rfl⟩
  unfold qCs
  by_cases h2:t < 256
  ·rw [if_pos h2,Bool.eq_iff_iff]
   simp
   omega
  ·rw [if_neg h2,Int.tmod_eq_emod_of_nonneg (show 0≤t by omega),Int.tdiv_eq_ediv_of_nonneg (by omega),qAe (by omega),Int.tmod_eq_emod_of_nonneg (by omega),Bool.eq_iff_iff]
   simp
   omega
set_option maxHeartbeats 2000000 in
set_option maxRecDepth 100000 in
theorem qGw (t:Int) (hw : -9223372036854775808≤t∧t≤9223372036854775807):Spec Tryz.prog 315 [.I t] [] (fun r h'=>r=.d (.bool (qBd t))∧h'=[]):=by
 have hv:=qOl t hw
 refine qAb hT Tryz.func315 rfl rfl rfl rfl ?_
 intro E hE
 unfold qBd
 have hr:=tagOk_range (t:=t)
 generalize qCs t=ok at hv hr
 refine ww ?_
 refine qAd (qBl rfl rfl hv rfl rfl rfl) rfl ?_
 refine ww ?_
 refine qAa rfl (fun h1=>?_) (fun h1=>?_)
 ·have h1':ok=false:=by simpa using h1
  subst h1'
  refine ww ?_
  exact qAg rfl (.refl _) rfl rfl rfl rfl ⟨rfl,rfl⟩
 ·have h1':ok=true:=by simpa using h1
  have hn:=hr h1'
  subst h1'
  refine ww ?_
  refine qAa rfl (fun h2=>?_) (fun h2=>?_)
  ·have h2':t > 255:=by simpa using h2
   refine ww ?_
   refine qAg rfl (.refl _) rfl rfl rfl rfl ⟨congrArg (fun b=>AV.d (.bool b)) ?_,rfl⟩
   rw [if_pos h2',Int.tdiv_eq_ediv_of_nonneg (a:=t) (by omega),qAe (n:=t / 256) (by omega),Int.tdiv_eq_ediv_of_nonneg (by omega),qAe (by omega),Int.tmod_eq_emod_of_nonneg (by omega)]
   rfl
  ·have h2':¬ t > 255:=by simpa using h2
   refine ww ?_
   refine qAg rfl (.refl _) rfl rfl rfl rfl ⟨congrArg (fun b=>AV.d (.bool b)) ?_,rfl⟩
   rw [if_neg h2',Int.tdiv_eq_ediv_of_nonneg (by omega),qAe (by omega),Int.tmod_eq_emod_of_nonneg (by omega)]
   rfl
mutual
def vGb:Node→Prop
 | .mk t v k=>(-9223372036854775808≤t∧t≤9223372036854775807)∧v.length≤1000000000∧k.length≤1000000000∧qJx k
def qJx:List Node→Prop
 | []=>True
 | a::l=>vGb a∧qJx l
end
theorem fitL_at:∀ {l:List Node},qJx l→∀ n,n∈l→vGb n
 | [],_,n,h=>by cases h
 | a::l,h,n,hn=>by
  cases hn with
  | head=>exact h.1
  | tail _ hn=>exact fitL_at h.2 n hn
theorem sizeL_drop:∀ (l:List Node) (i:Nat) (h:i < l.length),qAu (l.drop i)=qCg l[i]+qAu (l.drop (i+1))
 | a::l,0,_=>rfl
 | a::l,i+1,h=>by simpa using sizeL_drop l i (by simpa using h)
theorem sizeL_drop_le:∀ (l:List Node) (i:Nat),qAu (l.drop i)≤qAu l
 | [],i=>by simp
 | a::l,0=>Nat.le_refl _
 | a::l,i+1=>by have:=sizeL_drop_le l i;simp only [List.drop_succ_cons,qAu];omega
theorem qLj {α:Type} (l:List α):decide ((l.length:Int) > 0)=true↔l≠[]:=by
 cases l with
 | nil=>simp
 | cons a l=>simp
theorem vBb:∀ (n d:Nat) (l:List Node) (c:Nat),qAu l≤n→qJx l→l.length≤1000000000→d≤1000→c+qAu l≤1000000000000 →
  Spec Tryz.prog 276 [.d (.sl 3 (encNs l)),.I (d:Int),.ptr 0 0] [.row [.I (c:Int)]] (fun r h'=>r=.d (.int .i64 (qDz d l c).1)∧h'=[.row [.I ((qDz d l c).2:Int)]]):=by
 intro n
 induction n using Nat.strongRecOn with
 | _ n ih =>
 intro d l c hsz hf hl hd hc
 have hlen:=encNs_length l
 refine qAb hT Tryz.func276 rfl rfl rfl rfl ?_
 intro E hE
 generalize hfin:qDz d l c=fin
 refine ww ?_
 refine qBg (ι:=Nat×Nat) (fun x=>[(1,.I (d:Int)),(2,.ptr 0 0),(11,.d (.sl 3 (encNs l))),(12,.d (.int .i64 (encNs l).length)),(13,.I (x.1:Int))]) (fun x=>[.row [.I (x.2:Int)]])
  (fun x=>x.1≤l.length∧x.2+qAu (l.drop x.1)≤1000000000000∧qDz d (l.drop x.1) x.2=fin) (fun x=>l.length-x.1) (0,c) ⟨by simp,by simpa using hc,by simpa using hfin⟩
  q1 (HLe.refl _) ?_
 rintro ⟨i,ci⟩ ⟨hi,hci,hg⟩
 simp only at hi hci hg ⊢
 have hwr:IntKind.i64.wrap ((i:Int)+1)=((i+1:Nat):Int):=by rw [qAe (by omega)];simp
 have hwc:IntKind.i64.wrap ((ci:Int)+1)=((ci+1:Nat):Int):=by rw [qAe (by omega)];simp
 refine ww ?_
 refine qAa rfl (fun h1=>?_) (fun h1=>?_)
 ·have hlt:i < l.length:=by rw [hlen] at h1;simpa using h1
  have hdrop:l.drop i=l[i]::l.drop (i+1):=by simp
  have hel:(encNs l)[((i:Int)).toNat]?=some (qIc l[i]):=by simp [encNs_eq,hlt]
  have hsd:=sizeL_drop l i hlt
  have hsl:=sizeL_drop_le l i
  have hfi:=fitL_at hf l[i] (List.getElem_mem hlt)
  rw [hdrop,qDz] at hg
  generalize l[i]=x at hel hsd hfi hg
  obtain ⟨t,v,k⟩:=x
  rw [qIc] at hel
  have hv:=qJd t hfi.1
  have hcon:=qFk t hfi.1
  have hkl:=encNs_length k
  have hvl:=encB_length v
  have hsk:qCg (.mk t v k)=1+qAu k:=by rw [qCg]
  rw [qGm] at hg
  refine ww ?_
  refine qAd (qAc (indexAddr_ok hT rfl rfl rfl rfl (by omega) hel)) rfl ?_
  refine ww ?_
  refine qAd (qBl rfl rfl hcon rfl rfl rfl) rfl ?_
  refine ww ?_
  refine qAd (qBl rfl rfl hv rfl rfl rfl) rfl ?_
  refine ww ?_
  refine qAa rfl (fun h2=>?_) (fun h2=>?_)
  ·have h2':qCs t=false:=by simpa using h2
   simp only [if_pos h2',show ¬ (4:Int)=0 by omega,if_false] at hg
   subst hg
   rw [← hwc]
   refine ww ?_
   exact qAg rfl (.refl _) rfl rfl rfl rfl ⟨rfl,rfl⟩
  ·have h2':¬ qCs t=false:=by simpa using h2
   simp only [if_neg h2'] at hg
   clear hv hcon
   generalize hcn:qBd t=con at hg
   refine ww ?_
   refine qAa rfl (fun h3=>?_) (fun h3=>?_)
   ·have h3':con=false∧k≠[]:=by
     rw [Bool.and_eq_true,hkl,qLj] at h3
     exact ⟨by simpa using h3.1,h3.2⟩
    have hp:(con=false∧k≠[])∨(con=true∧v≠[]):=.inl h3'
    simp only [if_pos hp,show ¬ (1:Int)=0 by omega,if_false] at hg
    subst hg
    rw [← hwc]
    refine ww ?_
    refine qAa rfl (fun h4=>?_) (fun h4=>by rw [h3] at h4;cases h4)
    refine ww ?_
    exact qAg rfl (.refl _) rfl rfl rfl rfl ⟨rfl,rfl⟩
   ·have h3':¬ (con=false∧k≠[]):=fun hh=>by
     have:(!con&&decide ((k.length:Int) > 0))=true:=by rw [Bool.and_eq_true,qLj];exact ⟨by simp [hh.1],hh.2⟩
     rw [hkl,this] at h3;cases h3
    refine ww ?_
    refine qAa rfl (fun h4=>?_) (fun h4=>?_)
    ·have h4':con=true∧v≠[]:=by
      rw [Bool.and_eq_true,hvl,qLj] at h4
      exact h4
     have hp:(con=false∧k≠[])∨(con=true∧v≠[]):=.inr h4'
     simp only [if_pos hp,show ¬ (1:Int)=0 by omega,if_false] at hg
     subst hg
     rw [← hwc]
     refine ww ?_
     exact qAg rfl (.refl _) rfl rfl rfl rfl ⟨rfl,rfl⟩
    ·have h4':¬ (con=true∧v≠[]):=fun hh=>by
      have:(con&&decide ((v.length:Int) > 0))=true:=by rw [Bool.and_eq_true,qLj];exact hh
      rw [hvl,this] at h4;cases h4
     have hp:¬ ((con=false∧k≠[])∨(con=true∧v≠[])):=fun hh=>hh.elim h3' h4'
     simp only [if_neg hp] at hg
     refine ww ?_
     refine qAa rfl (fun h5=>?_) (fun h5=>?_)
     ·have h5':8 < d:=by simp at h5;omega
      simp only [if_pos h5',show ¬ (7:Int)=0 by omega,if_false] at hg
      subst hg
      rw [← hwc]
      refine ww ?_
      exact qAg rfl (.refl _) rfl rfl rfl rfl ⟨rfl,rfl⟩
     ·have h5':¬ 8 < d:=by simp at h5;omega
      simp only [if_neg h5'] at hg
      have hwd:IntKind.i64.wrap ((d:Int)+1)=((d+1:Nat):Int):=by rw [qAe (by omega)];simp
      have hrec:=ih (qAu k) (by omega) (d+1) k (ci+1) (Nat.le_refl _) hfi.2.2.2 hfi.2.2.1 (by omega) (by omega)
      have hcnt:=chkL_count (d+1) k (ci+1)
      rw [← hwc,← hwd] at hrec
      generalize qDz (d+1) k (ci+1)=q at hrec hcnt hg
      obtain ⟨e,c2⟩:=q
      simp only at hrec hcnt hg
      refine ww ?_
      refine qAd (qGd rfl rfl hrec [0] (by decide) rfl rfl rfl rfl rfl rfl rfl) rfl ?_
      refine ww ?_
      refine qAa rfl (fun h6=>?_) (fun h6=>?_)
      ·have h6':¬ e=0:=by simpa using h6
       rw [if_neg h6'] at hg
       subst hg
       refine ww ?_
       exact qAg rfl (.refl _) rfl rfl rfl rfl ⟨rfl,rfl⟩
      ·have h6':e=0:=by simpa using h6
       rw [if_pos h6'] at hg
       have hc2:=hcnt.2 h6'
       refine ww ?_
       exact ⟨(i+1,c2),[_],⟨by simp only;omega,by simp only;omega,hg⟩,by simp only;omega,⟨.refl _,.refl _,.refl _,.refl _,AV.le.eq (by show AV.d (.int .i64 (IntKind.i64.wrap ((i:Int)+1)))=_;rw [hwr]),trivial⟩,HLe.refl _,hE,rfl,rfl⟩
 ·have hge:i=l.length:=by rw [hlen] at h1;simp at h1;omega
  subst hge
  simp only [List.drop_length,qDz] at hg
  subst hg
  refine ww ?_
  exact qAg rfl (.refl _) rfl rfl rfl rfl ⟨rfl,rfl⟩
def qGp (cells:List AV) (i:Nat):List AV:=(List.range cells.length).map fun k=>(cells[if k < i∨cells.length-i≤k then cells.length-1-k else k]?).getD .any
theorem revAt_length (cells:List AV) (i:Nat):(qGp cells i).length=cells.length:=by simp [qGp]
theorem revAt_zero (cells:List AV):qGp cells 0=cells:=by
 apply List.ext_getElem?
 intro k
 by_cases h:k < cells.length
 ·simp only [qGp,List.getElem?_map,List.getElem?_range h,Option.map_some]
  rw [if_neg (by omega)]
  simp [h]
 ·rw [List.getElem?_eq_none (by rw [revAt_length];omega),List.getElem?_eq_none (by omega)]
theorem revAt_at {cells:List AV} {i k:Nat} (h:k < cells.length):(qGp cells i)[k]?=cells[if k < i∨cells.length-i≤k then cells.length-1-k else k]?:=by
 simp only [qGp,List.getElem?_map,List.getElem?_range h,Option.map_some]
 have hlt:(if k < i∨cells.length-i≤k then cells.length-1-k else k) < cells.length:=by split <;> omega
 rw [List.getElem?_eq_getElem hlt];rfl
theorem revAt_half {cells:List AV} {i:Nat} (h:cells.length≤2*i+1) (hi:2*i≤cells.length):qGp cells i=cells.reverse:=by
 apply List.ext_getElem?
 intro k
 by_cases hk:k < cells.length
 ·rw [revAt_at hk,List.getElem?_reverse hk]
  split
  ·rfl
  ·congr 1;omega
 ·rw [List.getElem?_eq_none (by rw [revAt_length];omega),List.getElem?_eq_none (by simp;omega)]
theorem revAt_succ {cells:List AV} {i:Nat} (h:2*i+1 < cells.length) {x y:AV} (hx:(qGp cells i)[cells.length-1-i]?=some x) (hy:(qGp cells i)[i]?=some y) :
  ((qGp cells i).set i x).set (cells.length-1-i) y=qGp cells (i+1):=by
 rw [revAt_at (by omega),if_neg (by omega)] at hx hy
 apply List.ext_getElem?
 intro k
 by_cases hk:k < cells.length
 ·rw [revAt_at hk,List.getElem?_set,List.getElem?_set]
  simp only [List.length_set,revAt_length]
  by_cases h1:cells.length-1-i=k
  ·rw [if_pos h1,if_pos (by omega),if_pos (by omega),← hy];congr 1;omega
  ·rw [if_neg h1]
   by_cases h2:i=k
   ·rw [if_pos h2,if_pos (by omega),if_pos (by omega),← hx];congr 1;omega
   ·rw [if_neg h2,revAt_at hk]
    congr 1
    by_cases h3:k < i∨cells.length-i≤k
    ·rw [if_pos h3,if_pos (by omega)]
    ·rw [if_neg h3,if_neg (by omega)]
 ·rw [List.getElem?_eq_none (by simp [revAt_length];omega),List.getElem?_eq_none (by rw [revAt_length];omega)]
theorem lowL_of {k:Nat}:∀ {l:List AV},(∀ c,c∈l→low k c=true)→qCo k l=true
 | [],_=>rfl
 | a::l,h=>by simp only [qCo,Bool.and_eq_true];exact ⟨h a (by simp),lowL_of fun c hc=>h c (by simp [hc])⟩
set_option maxHeartbeats 4000000 in
set_option maxRecDepth 100000 in
theorem qUs (cells:List AV) (hl:cells.length≤1000000000) (hsc:∀ c,c∈cells→qEh c=true) (hlow:∀ c,c∈cells→low 1 c=true) :
  Spec Tryz.prog 386 [.bm 0 cells.length] [.buf 1 cells.length cells] (fun r h'=>r=.tup []∧h'=[.buf 1 cells.length cells.reverse]):=by
 refine qAb hT Tryz.func386 rfl rfl rfl rfl ?_
 intro E hE
 generalize hn:cells.length=n at hl
 have hw1:IntKind.i64.wrap ((n:Int)-1)=(n:Int)-1:=qAe (by omega)
 refine ww ?_
 refine qAq (ι:=Nat) (fun i=>[(0,.bm 0 n),(2,.I (i:Int)),(3,.I ((n:Int)-1-i))]) (fun i=>[.buf 1 n (qGp cells i)]) (fun i=>2*i≤n+1∧(2*i≤n∨i=0)) (fun i=>n-i) 0 (by omega)
  ⟨.refl _,.refl _,AV.le.eq (by show AV.d (.int .i64 (IntKind.i64.wrap ((n:Int)-1)))=_;rw [hw1];simp),trivial⟩ ⟨⟨rfl,rfl,by rw [revAt_zero];exact AllLe.refl _⟩,trivial⟩ ?_
 intro i ⟨hi,hi2⟩
 have hwr:IntKind.i64.wrap ((i:Int)+1)=((i+1:Nat):Int):=by rw [qAe (by omega)];simp
 have hwr2:IntKind.i64.wrap ((n:Int)-1-i-1)=(n:Int)-1-((i+1:Nat):Int):=by rw [qAe (by omega)];omega
 refine ww ?_
 refine qAa rfl (fun h1=>?_) (fun h1=>?_)
 ·have h1':(i:Int) < (n:Int)-1-i:=by simpa using h1
  have hjn:((n:Int)-1-i).toNat=n-1-i:=by omega
  obtain ⟨x,hx⟩:∃ x,(qGp cells i)[n-1-i]?=some x:=⟨(qGp cells i)[n-1-i]'(by rw [revAt_length];omega),by simp⟩
  obtain ⟨y,hy⟩:∃ y,(qGp cells i)[i]?=some y:=⟨(qGp cells i)[i]'(by rw [revAt_length];omega),by simp⟩
  have hxs:qEh x=true:=by
   rw [revAt_at (by omega)] at hx;exact hsc x (List.mem_of_getElem? hx)
  have hys:qEh y=true:=by
   rw [revAt_at (by omega)] at hy;exact hsc y (List.mem_of_getElem? hy)
  have hsucc:=revAt_succ (cells:=cells) (i:=i) (by omega) (x:=x) (y:=y) (by rw [hn];exact hx) hy
  rw [hn] at hsucc
  have hlr:(qGp cells i).length=n:=by rw [revAt_length,hn]
  generalize qGp cells i=rc at hx hy hsucc hlr
  have hlo1:((i:Int)).toNat*1 < rc.length:=by rw [Nat.mul_one,Int.toNat_natCast,hlr];omega
  have hlo2:((n:Int)-1-i).toNat*1 < (rc.set (((i:Int)).toNat*1) x).length:=by rw [Nat.mul_one,hjn,List.length_set,hlr];omega
  refine wwn ?_
  refine qBp (fun i=>bif Nat.beq i 7||Nat.beq i 11||Nat.beq i 13||Nat.beq i 15 then [0] else []) (fun i=>bif Nat.beq i 13||Nat.beq i 15 then [0] else []) mixed (by kernel_rfl) ?_
  refine wwg ?_
  refine qAk (os:=[]) (fun k hk1 hk2=>qAc (bufAddr_ok (sz:=1) hT rfl rfl rfl rfl (by omega))) rfl ?_
  refine qAk (v:=x) (os:=[]) (fun k hk1 hk2=>bufLoad_ok hT rfl rfl ((hk2 0 List.mem_cons_self).trans rfl) rfl rfl (by rw [Nat.mul_one,hjn];exact hx)) rfl ?_
  refine wwg ?_
  refine qAk (os:=[]) (fun k hk1 hk2=>qAc (bufAddr_ok (sz:=1) hT rfl rfl rfl rfl (by omega))) rfl ?_
  refine qAk (v:=y) (os:=[]) (fun k hk1 hk2=>bufLoad_ok hT rfl rfl ((hk2 0 List.mem_cons_self).trans rfl) rfl rfl (by rw [Nat.mul_one,Int.toNat_natCast];exact hy)) rfl ?_
  refine qAk (os:=[]) (fun k hk1 hk2=>qAc (bufAddr_ok (sz:=1) hT rfl rfl rfl rfl (by omega))) rfl ?_
  refine qAk (v:=.any) (os:=[.buf 1 n (rc.set (((i:Int)).toNat*1) x)]) (fun k hk1 hk2=>qUl hT rfl rfl rfl ((hk2 0 List.mem_cons_self).trans rfl) rfl rfl hxs hlo1 rfl) rfl ?_
  refine qAk (os:=[]) (fun k hk1 hk2=>qAc (bufAddr_ok (sz:=1) hT rfl rfl rfl rfl (by omega))) rfl ?_
  refine qAk (v:=.any) (os:=[.buf 1 n ((rc.set (((i:Int)).toNat*1) x).set (((n:Int)-1-i).toNat*1) y)]) (fun k hk1 hk2=>qUl hT rfl rfl rfl ((hk2 0 List.mem_cons_self).trans rfl) rfl rfl hys hlo2 rfl) rfl ?_
  have e:(rc.set (((i:Int)).toNat*1) x).set (((n:Int)-1-i).toNat*1) y=qGp cells (i+1):=by rw [Nat.mul_one,Nat.mul_one,hjn,Int.toNat_natCast];exact hsucc
  refine wwg ?_
  refine ww ?_
  exact ⟨i+1,by omega,by omega,⟨.refl _,AV.le.eq (by show AV.d (.int .i64 (IntKind.i64.wrap ((i:Int)+1)))=_;rw [hwr]),AV.le.eq (by show AV.d (.int .i64 (IntKind.i64.wrap ((n:Int)-1-i-1)))=_;rw [hwr2]),trivial⟩,⟨⟨rfl,rfl,e▸AllLe.refl _⟩,trivial⟩⟩
 ·have h1':¬ (i:Int) < (n:Int)-1-i:=by simpa using h1
  have hfin:qGp cells i=cells.reverse:=by
   rcases hi2 with h | h
   ·exact revAt_half (by omega) (by omega)
   ·subst h
    rw [revAt_zero]
    have hn1:cells.length≤1:=by omega
    match cells,hn1 with
    | [],_=>rfl
    | [a],_=>rfl
  rw [hfin]
  refine ww ?_
  exact qPt rfl (.refl _) rfl rfl rfl (by show (qCo 1 cells.reverse&&true)=true;rw [Bool.and_true];exact lowL_of fun c hc=>hlow c (List.mem_reverse.1 hc)) ⟨rfl,rfl⟩
theorem byteAV_length (s:List UInt8):(qAn s).length=s.length:=by simp [qAn]
theorem byteAV_append (a b:List UInt8):qAn (a++b)=qAn a++qAn b:=by simp [qAn]
theorem byteAV_reverse (a:List UInt8):(qAn a).reverse=qAn a.reverse:=by simp [qAn,List.map_reverse]
theorem byteAV_scalar {s:List UInt8} {c:AV} (h:c∈qAn s):qEh c=true:=by
 simp only [qAn,List.mem_map] at h
 obtain ⟨b,_,rfl⟩:=h;rfl
theorem byteAV_low {k:Nat} {s:List UInt8} {c:AV} (h:c∈qAn s):low k c=true:=by
 simp only [qAn,List.mem_map] at h
 obtain ⟨b,_,rfl⟩:=h;rfl
theorem lowL_bytes (k:Nat) (s:List UInt8):qCo k (qAn s)=true:=lowL_of fun c hc=>byteAV_low hc
theorem lowH_bytes (k n:Nat) (s:List UInt8):qEg k [.buf 1 n (qAn s)]=true:=by show (qCo k (qAn s)&&true)=true;rw [Bool.and_true];exact lowL_bytes k s
theorem flatAV_encB (s:List UInt8):qBi (qAj s)=qAn s:=by
 induction s with
 | nil=>rfl
 | cons a s ih =>
  simp only [qBi,qAj,qAn,List.map_cons,List.flatten_cons,List.map_append] at ih ⊢
  rw [ih];rfl
theorem qFe (s:List UInt8):RowDat (qAn s) 0 1 (qAj s):=by
 refine ⟨fun e he=>?_,fun i e j d he hd=>?_⟩
 ·simp only [qAj,List.mem_map] at he
  obtain ⟨b,_,rfl⟩:=he;rfl
 ·simp only [qAj,List.getElem?_map,Option.map_eq_some_iff] at he
  obtain ⟨b,hb,rfl⟩:=he
  cases j with
  | zero=>simp at hd;subst hd;exact ⟨.d (.int .u8 (b.toNat:Int)),by simp [qAn,hb],rfl⟩
  | succ j=>simp at hd
theorem toNat_ofNat {n:Nat} (h:n < 256):(UInt8.ofNat n).toNat=n:=by simp;omega
set_option maxHeartbeats 4000000 in
set_option maxRecDepth 100000 in
theorem qWq (n:Nat) (hn:n≤1000000000000):Spec Tryz.prog 346 [.I (n:Int)] [] (fun r h'=>r=.d (.sl 1 (qAj (qQa n)))∧h'=[]):=by
 refine qAb hT Tryz.func346 rfl rfl rfl rfl ?_
 intro E hE
 refine ww ?_
 refine qAa rfl (fun h1=>?_) (fun h1=>?_)
 ·have h1':n < 128:=by simp at h1;omega
  have hw8:IntKind.u8.wrap (n:Int)=((UInt8.ofNat n).toNat:Int):=by rw [toNat_ofNat (by omega)];exact wrapu8 (by omega)
  have hL:qQa n=[UInt8.ofNat n]:=by unfold qQa;rw [if_pos h1']
  rw [hL,show qAj [UInt8.ofNat n]=[[.int .u8 (IntKind.u8.wrap (n:Int))]] by rw [hw8];rfl]
  refine ww ?_
  exact qAg rfl AV.le.dat rfl rfl rfl rfl ⟨rfl,rfl⟩
 ·have h1':¬ n < 128:=by simp at h1;omega
  have hL:qQa n=UInt8.ofNat (128+(digs 8 n).length)::digs 8 n:=by unfold qQa;rw [if_neg h1']
  have hdl:=digL_length 8 n
  generalize hfull:qZc 8 n=full at hdl
  have hL2:qQa n=(full++[UInt8.ofNat (128+full.length)]).reverse:=by rw [hL,digs,hfull];simp
  rw [hL2]
  refine qAo ?_
  refine wwe ?_
  refine qAl (qAf ?_)
  refine wws ?_
  refine vIm 3 1 0 (.inr rfl) rfl rfl ?_
  refine ww ?_
  refine qAq (ι:=List UInt8×Nat×Nat) (fun x=>[(0,.I (x.2.2:Int)),(3,.bm 0 x.1.length)]) (fun x=>[.buf 1 x.1.length (qAn x.1)])
   (fun x=>x.1.length+x.2.1≤8∧x.2.2 < 256 ^ x.2.1∧x.2.2≤1000000000000∧x.1++qZc x.2.1 x.2.2=full) (fun x=>x.2.1) ([],8,n) ⟨by simp,by simp only;omega,hn,by simpa using hfull⟩ q1 (HLe.refl _) ?_
  rintro ⟨acc,m,k⟩ ⟨j1,j2,j3,j4⟩
  simp only at j1 j2 j3 j4 ⊢
  refine ww ?_
  refine qAa rfl (fun h2=>?_) (fun h2=>?_)
  ·have h2':0 < k:=by simp at h2;omega
   obtain ⟨m,rfl⟩:∃ m',m=m'+1:=⟨m-1,by
    rcases Nat.eq_zero_or_pos m with h0 | h0
    ·subst h0;simp at j2;omega
    ·omega⟩
   rw [qZc,if_neg (by omega)] at j4
   have hshr:Int.fdiv (k:Int) (2 ^ (min (8:Int).toNat IntKind.i64.bits))=((k / 256:Nat):Int):=qDy k 8
   have hb:IntKind.u8.wrap (k:Int)=((UInt8.ofNat (k % 256)).toNat:Int):=by rw [qCi,toNat_ofNat (Nat.mod_lt _ (by omega))];simp
   refine ww ?_
   refine qYa (bufApp_ok hT rfl rfl rfl rfl rfl rfl (by show (acc.length+1)*(1+1)≤_;omega)) rfl rfl ?_
   refine ww ?_
   refine ⟨(acc++[UInt8.ofNat (k % 256)],m,k / 256),⟨by simp only [List.length_append,List.length_singleton];omega,by rw [Nat.pow_succ] at j2;simp only;omega,by simp only;omega,by simpa using j4⟩,by simp only;omega,⟨AV.le.eq ?_,AV.le.eq ?_,trivial⟩,⟨⟨rfl,?_,?_⟩,trivial⟩⟩
   ·show AV.d (.int .i64 (Int.fdiv (k:Int) (2 ^ (min (8:Int).toNat IntKind.i64.bits))))=_
    rw [hshr]
   ·simp;rfl
   ·simp
   ·rw [byteAV_append]
    show AllLe (qAn acc++[AV.d (.int .u8 (IntKind.u8.wrap (k:Int)))]) _
    rw [hb]
    exact AllLe.refl _
  ·have h2':k=0:=by simp at h2;omega
   subst h2'
   rw [digL_zero,List.append_nil] at j4
   subst j4
   have hor:IntKind.u8.wrap ((BitVec.ofInt IntKind.u8.bits 128 ||| BitVec.ofInt IntKind.u8.bits (IntKind.u8.wrap (acc.length:Int))).toNat:Int)=((UInt8.ofNat (128+acc.length)).toNat:Int):=by
    rw [wrapu8 (n:=(acc.length:Int)) (by omega),toNat_ofNat (by omega)]
    have:=vJo (a:=128) (b:=acc.length) (by omega) (by omega)
    rw [show (128 ||| acc.length)=128+acc.length from vCq 1 acc.length 7 (by omega)] at this
    exact this
   have hrev:=qUs (qAn (acc++[UInt8.ofNat (128+acc.length)])) (by rw [byteAV_length];simp;omega) (fun c hc=>byteAV_scalar hc) (fun c hc=>byteAV_low hc)
   rw [byteAV_length,byteAV_reverse] at hrev
   refine wwe ?_
   refine qAl (qAf ?_)
   refine wws ?_
   refine qYa (bufApp_ok hT rfl rfl rfl rfl rfl rfl (by show (acc.length+1)*(1+1)≤_;omega)) rfl rfl ?_
   refine wws ?_
   refine qAp (l:=[(3,.bm 0 (acc++[UInt8.ofNat (128+acc.length)]).length)]) (h':=[.buf 1 (acc++[UInt8.ofNat (128+acc.length)]).length (qAn (acc++[UInt8.ofNat (128+acc.length)]))]) ⟨AV.le.eq (by simp;rfl),trivial⟩ ⟨⟨rfl,by simp,?_⟩,trivial⟩ ?_
   ·rw [byteAV_append]
    show AllLe (qAn acc++[AV.d (.int .u8 (IntKind.u8.wrap ((BitVec.ofInt IntKind.u8.bits 128 ||| BitVec.ofInt IntKind.u8.bits (IntKind.u8.wrap (acc.length:Int))).toNat:Int)))]) _
    rw [hor]
    exact AllLe.refl _
   generalize acc++[UInt8.ofNat (128+acc.length)]=s at hrev ⊢
   refine qAl (qAf ?_)
   refine wws ?_
   refine qYa (qGd rfl rfl hrev [0] (by decide) rfl rfl rfl (lowH_bytes _ _ _) (lowH_bytes _ _ _) rfl rfl) rfl rfl ?_
   refine wws ?_
   refine qMe 3 0 1 (qAj s.reverse) rfl rfl (by rw [encB_length,List.length_reverse]) (qFe _) rfl ?_
   refine ww ?_
   exact qAg rfl AV.le.dat rfl rfl rfl rfl ⟨rfl,rfl⟩
mutual
def vJh:Node→Prop
 | .mk t _ k=>qCs t=true∧qZy k
def qZy:List Node→Prop
 | []=>True
 | a::l=>vJh a∧qZy l
end
theorem tagsL_at:∀ {l:List Node},qZy l→∀ n,n∈l→vJh n
 | [],_,n,h=>by cases h
 | a::l,h,n,hn=>by
  cases hn with
  | head=>exact h.1
  | tail _ hn=>exact tagsL_at h.2 n hn
mutual
theorem chkN_tags (d:Nat):∀ (n:Node) (c:Nat),(qGm d n c).1=0→vJh n
 | .mk t v k,c,h=>by
  rw [qGm] at h
  split at h
  ·simp at h
  ·rename_i h1
   split at h
   ·simp at h
   ·split at h
    ·simp at h
    ·exact ⟨by simpa using h1,chkL_tags (d+1) k (c+1) h⟩
theorem chkL_tags (d:Nat):∀ (l:List Node) (c:Nat),(qDz d l c).1=0→qZy l
 | [],c,h=>trivial
 | a::l,c,h=>by
  rw [qDz] at h
  split at h
  ·rename_i h0
   exact ⟨chkN_tags d a c h0,chkL_tags d l _ h⟩
  ·rename_i h0
   exact absurd h h0
end
theorem wrL_append:∀ (a b:List Node),wrL (a++b)=wrL a++wrL b
 | [],b=>rfl
 | x::a,b=>by simp only [List.cons_append,wrL,wrL_append a b,List.append_assoc]
theorem wrL_take_succ {l:List Node} {i:Nat} (h:i < l.length):wrL (l.take (i+1))=wrL (l.take i)++wrN l[i]:=by
 rw [List.take_succ_eq_append_getElem h,wrL_append]
 simp [wrL]
theorem wrL_take_le (l:List Node) (i:Nat):(wrL (l.take i)).length≤(wrL l).length:=by
 have:=congrArg List.length (wrL_append (l.take i) (l.drop i))
 rw [List.take_append_drop,List.length_append] at this
 omega
theorem sizeN_mem:∀ {l:List Node} {n:Node},n∈l→qCg n≤qAu l
 | a::l,n,h=>by
  cases h with
  | head=>simp only [qAu];omega
  | tail _ h=>have:=sizeN_mem h;simp only [qAu];omega
theorem qZu:∀ (n:Nat) (l:List Node),qAu l≤n→qZy l→l.length≤1000000000→qJx l→(wrL l).length≤1000000000 →
  Spec Tryz.prog 277 [.d (.sl 3 (encNs l))] [] (fun r h'=>r=.d (.sl 1 (qAj (wrL l)))∧h'=[]):=by
 intro n
 induction n using Nat.strongRecOn with
 | _ n ih =>
 intro l hsz htg hl hf hw
 have hlen:=encNs_length l
 refine qAb hT Tryz.func277 rfl rfl rfl rfl ?_
 intro E hE
 refine qAo ?_
 refine qAl (qAf ?_)
 refine wws ?_
 refine qAl (qAf ?_)
 refine wws ?_
 refine qBb 3 1 0 (es:=[]) (.inr ⟨rfl,rfl⟩) rfl ?_
 refine ww ?_
 refine qBg (ι:=Nat) (fun i=>[(3,.sl 1 (qAj (wrL (l.take i))) (.right 0)),(7,.d (.sl 3 (encNs l))),(8,.d (.int .i64 (encNs l).length)),(9,.I (i:Int))]) (fun i=>[.right 1 (qAj (wrL (l.take i))).length])
  (fun i=>i≤l.length) (fun i=>l.length-i) 0 (by omega) q1 (HLe.refl _) ?_
 intro i hi
 have hwr:IntKind.i64.wrap ((i:Int)+1)=((i+1:Nat):Int):=by rw [qAe (by omega)];simp
 refine ww ?_
 refine qAa rfl (fun h1=>?_) (fun h1=>?_)
 ·have hlt:i < l.length:=by rw [hlen] at h1;simpa using h1
  have hel:(encNs l)[((i:Int)).toNat]?=some (qIc l[i]):=by simp [encNs_eq,hlt]
  have hsucc:=wrL_take_succ hlt
  have hle:=wrL_take_le l (i+1)
  have hmem:l[i]∈l:=List.getElem_mem hlt
  have hsm:=sizeN_mem hmem
  have htm:=tagsL_at htg _ hmem
  have hfm:=fitL_at hf _ hmem
  generalize l[i]=x at hel hsucc hsm htm hfm
  obtain ⟨t,v,k⟩:=x
  rw [qIc] at hel
  rw [qCg] at hsm
  have htr:=tagOk_range htm.1
  obtain ⟨tn,rfl⟩:=Int.eq_ofNat_of_zero_le (show 0≤t by omega)
  have hcon:=qFk (tn:Int) (by omega)
  rw [wrN] at hsucc
  generalize hout:wrL (l.take i)=out at hsucc ⊢
  have hrec:qBd (tn:Int)=true→Spec Tryz.prog 277 [.d (.sl 3 (encNs k))] [] (fun r h'=>r=.d (.sl 1 (qAj (wrL k)))∧h'=[]):=fun hc=>ih (qAu k) (by omega) k (Nat.le_refl _) htm.2 hfm.2.2.1 hfm.2.2.2 (by
   rw [hsucc,if_pos hc] at hle
   simp only [List.length_append] at hle
   omega)
  generalize qBd (tn:Int)=con at hcon hsucc hrec
  generalize hc:(if con=true then wrL k else v)=c at hsucc
  have hcl:c.length≤1000000000:=by
   rw [hsucc] at hle;simp only [List.length_append] at hle;omega
  have hll:=encB_length c
  have hlsp:Spec Tryz.prog 346 [.I ((qAj c).length:Int)] [] (fun r h'=>r=.d (.sl 1 (qAj (qQa c.length)))∧h'=[]):=by rw [hll];exact qWq c.length (by omega)
  have hlb:out.length+((qLe (tn:Int)).length+(qQa c.length).length+c.length)≤1000000000:=by
   rw [hsucc] at hle;simp only [List.length_append] at hle;omega
  have hlo:IntKind.u8.wrap (tn:Int)=((UInt8.ofNat (tn % 256)).toNat:Int):=by rw [qCi,toNat_ofNat (Nat.mod_lt _ (by omega))];simp
  have hshr:Int.fdiv (tn:Int) (2 ^ (min (8:Int).toNat IntKind.i64.bits))=((tn / 256:Nat):Int):=qDy tn 8
  have hhi:IntKind.u8.wrap (Int.fdiv (tn:Int) (2 ^ (min (8:Int).toNat IntKind.i64.bits)))=((UInt8.ofNat (tn / 256 % 256)).toNat:Int):=by rw [hshr,qCi,toNat_ofNat (Nat.mod_lt _ (by omega))];simp
  generalize hhd:(if tn > 255 then [UInt8.ofNat (tn / 256 % 256)] else [])=hd
  have htb:qLe (tn:Int)=hd++[UInt8.ofNat (tn % 256)]:=by
   have e1:((tn:Int) / 256 % 256).toNat=tn / 256 % 256:=by omega
   have e2:((tn:Int) % 256).toNat=tn % 256:=by omega
   unfold qLe
   rw [e1,e2,← hhd]
   by_cases h9:tn > 255
   ·rw [if_pos (by omega),if_pos h9];rfl
   ·rw [if_neg (by omega),if_neg h9];rfl
  rw [htb] at hsucc hlb
  simp only [List.length_append,List.length_singleton] at hlb
  refine qBw ?_
  refine qAl (qDt (qAl (qAf ?_)))
  refine qAd (qAc (indexAddr_ok hT rfl rfl rfl rfl (by omega) hel)) rfl ?_
  refine wws ?_
  refine qAl (qAf ?_)
  refine wws ?_
  refine qCf (ι:=Unit) (fun _=>[(3,.sl 1 (qAj out) (.right 0)),(5,.ptr 1 0),(6,.d (.sl 1 (qAj c))),(7,.d (.sl 3 (encNs l))),(8,.d (.int .i64 (encNs l).length)),(9,.I (i:Int))])
   (fun _=>[.right 1 (qAj out).length,.row [.I (tn:Int),.d (.sl 1 (qAj v)),.d (.sl 3 (encNs k))]]) (fun _=>True) ?_ (fun _ _=>?_)
  ·refine ww ?_
   refine qAd (qBl rfl rfl hcon rfl rfl rfl) rfl ?_
   refine ww ?_
   refine qAa rfl (fun h2=>?_) (fun h2=>?_)
   ·refine ww ?_
    refine qAd (qBl rfl rfl (hrec h2) rfl rfl rfl) rfl ?_
    refine ww ?_
    exact ⟨(),trivial,⟨.refl _,.refl _,AV.le.eq (by rw [← hc,if_pos h2];rfl),.refl _,.refl _,.refl _,trivial⟩,HLe.refl _⟩
   ·have h2':¬ con=true:=by simp [h2]
    refine ww ?_
    exact ⟨(),trivial,⟨.refl _,.refl _,AV.le.eq (by rw [← hc,if_neg h2'];rfl),.refl _,.refl _,.refl _,trivial⟩,HLe.refl _⟩
  refine qCf (ι:=Unit) (fun _=>[(3,.sl 1 (qAj (out++hd)) (.right 0)),(5,.ptr 1 0),(6,.d (.sl 1 (qAj c))),(7,.d (.sl 3 (encNs l))),(8,.d (.int .i64 (encNs l).length)),(9,.I (i:Int))])
   (fun _=>[.right 1 (qAj (out++hd)).length,.row [.I (tn:Int),.d (.sl 1 (qAj v)),.d (.sl 3 (encNs k))]]) (fun _=>True) ?_ (fun _ _=>?_)
  ·refine ww ?_
   refine qAa rfl (fun h2=>?_) (fun h2=>?_)
   ·have h2':tn > 255:=by simp at h2;omega
    rw [if_pos h2'] at hhd
    subst hhd
    refine ww ?_
    refine qAd (qAh (i:=0) hT rfl rfl rfl rfl rfl rfl (by show ((qAj out).length+1)*(1+1)≤_;rw [encB_length];omega)) rfl ?_
    refine ww ?_
    refine ⟨(),trivial,⟨AV.le.eq ?_,.refl _,.refl _,.refl _,.refl _,.refl _,trivial⟩,⟨⟨rfl,?_⟩,ObLe.refl _,trivial⟩⟩
    ·show AV.sl 1 (qAj out++[[.int .u8 (IntKind.u8.wrap (Int.fdiv (tn:Int) (2 ^ (min (8:Int).toNat IntKind.i64.bits))))]]) (.right 0)=_
     rw [hhi,encB_append];rfl
    ·show (qAj out++[[Dat.int .u8 (IntKind.u8.wrap (Int.fdiv (tn:Int) (2 ^ (min (8:Int).toNat IntKind.i64.bits))))]]).length=_
     rw [hhi,encB_append];rfl
   ·have h2':¬ tn > 255:=by simp at h2;omega
    rw [if_neg h2'] at hhd
    subst hhd
    refine ww ?_
    refine ⟨(),trivial,⟨AV.le.eq (by rw [List.append_nil];rfl),.refl _,.refl _,.refl _,.refl _,.refl _,trivial⟩,⟨⟨rfl,by rw [List.append_nil]⟩,ObLe.refl _,trivial⟩⟩
  have hol:=encB_length (out++hd)
  rw [List.length_append] at hol
  have hlbl:=encB_length (qQa c.length)
  refine ww ?_
  refine qAd (qAh (i:=0) hT rfl rfl rfl rfl rfl rfl (by show ((qAj (out++hd)).length+1)*(1+1)≤_;omega)) rfl ?_
  refine ww ?_
  refine qAd (qBl rfl rfl hlsp rfl rfl rfl) rfl ?_
  refine qAd (qAh (i:=0) hT rfl rfl rfl rfl rfl rfl (by show ((qAj (out++hd)++[[Dat.int .u8 (IntKind.u8.wrap (tn:Int))]]).length+(qAj (qQa c.length)).length)*(1+1)≤_;rw [List.length_append,List.length_singleton];omega)) rfl ?_
  refine ww ?_
  refine qAd (qAh (i:=0) hT rfl rfl rfl rfl rfl rfl (by show ((qAj (out++hd)++[[Dat.int .u8 (IntKind.u8.wrap (tn:Int))]]++qAj (qQa c.length)).length+(qAj c).length)*(1+1)≤_;rw [List.length_append,List.length_append,List.length_singleton];omega)) rfl ?_
  refine ww ?_
  have hres:qAj (wrL (l.take (i+1)))=qAj (out++hd)++[[Dat.int .u8 (IntKind.u8.wrap (tn:Int))]]++qAj (qQa c.length)++qAj c:=by
   rw [hsucc,hlo];simp only [encB_append,List.append_assoc];rfl
  refine ⟨i+1,[_],by omega,by omega,⟨AV.le.eq (by rw [hres];rfl),.refl _,.refl _,AV.le.eq (by show AV.d (.int .i64 (IntKind.i64.wrap ((i:Int)+1)))=_;rw [hwr]),trivial⟩,⟨⟨rfl,by rw [hres]⟩,ObLe.refl _,trivial⟩,Env.below_mono hE (by simp),rfl,rfl⟩
 ·have hge:i=l.length:=by rw [hlen] at h1;simp at h1;omega
  subst hge
  rw [List.take_length]
  refine ww ?_
  exact qAg rfl AV.le.dat rfl rfl rfl rfl ⟨rfl,rfl⟩
set_option maxHeartbeats 4000000 in
set_option maxRecDepth 100000 in
theorem qFv (l:List Node) (hl:l.length≤1000000000) (hf:qJx l) (hsz:qAu l≤100000000) (hw:(wrL l).length≤1000000000) :
  Spec Tryz.prog 181 [.d (.sl 3 (encNs l))] [] (fun r h'=>r=.tup [.d (.sl 1 (qAj (qBj l).1)),.d (.int .i64 (qBj l).2)]∧h'=[]):=by
 have hchk:=vBb (qAu l) 1 l 0 (Nat.le_refl _) hf hl (by omega) (by omega)
 have htag:=chkL_tags 1 l 0
 have hcnt:=chkL_count 1 l 0
 unfold qBj
 generalize qDz 1 l 0=q at hchk htag hcnt
 obtain ⟨e,c⟩:=q
 simp only at hchk htag hcnt ⊢
 refine qAb hT Tryz.func181 rfl rfl rfl rfl ?_
 intro E hE
 refine ww ?_
 refine qAd (qGd rfl rfl hchk [0] (by decide) rfl rfl rfl rfl rfl rfl rfl) rfl ?_
 refine ww ?_
 refine qAa rfl (fun h1=>?_) (fun h1=>?_)
 ·have h1':e≠0:=by simpa using h1
  rw [if_pos h1']
  refine ww ?_
  exact qAg (r:=.tup [.d (.sl 1 (qAj [])),.I e]) rfl (AV.le.tup ⟨AV.le.nils,.refl _,trivial⟩) rfl rfl rfl rfl ⟨rfl,rfl⟩
 ·have h1':¬ e≠0:=by simpa using h1
  rw [if_neg h1']
  refine ww ?_
  refine qAa rfl (fun h2=>?_) (fun h2=>?_)
  ·have h2':c > 256:=by simp at h2;omega
   rw [if_pos h2']
   refine ww ?_
   exact qAg (r:=.tup [.d (.sl 1 (qAj [])),.I 2]) rfl (AV.le.tup ⟨AV.le.nils,.refl _,trivial⟩) rfl rfl rfl rfl ⟨rfl,rfl⟩
  ·have h2':¬ c > 256:=by simp at h2;omega
   rw [if_neg h2']
   have hwr:=qZu (qAu l) l (Nat.le_refl _) (htag (by omega)) hl hf hw
   have hwl:=encB_length (wrL l)
   generalize wrL l=s at hwr hwl
   refine ww ?_
   refine qAd (qBl rfl rfl hwr rfl rfl rfl) rfl ?_
   refine ww ?_
   refine qAa rfl (fun h3=>?_) (fun h3=>?_)
   ·have h3':s.length > 4096:=by rw [hwl] at h3;simp at h3;omega
    rw [if_pos h3']
    refine ww ?_
    exact qAg (r:=.tup [.d (.sl 1 (qAj [])),.I 2]) rfl (AV.le.tup ⟨AV.le.nils,.refl _,trivial⟩) rfl rfl rfl rfl ⟨rfl,rfl⟩
   ·have h3':¬ s.length > 4096:=by rw [hwl] at h3;simp at h3;omega
    rw [if_neg h3']
    refine ww ?_
    exact qAg rfl (.refl _) rfl rfl rfl rfl ⟨rfl,rfl⟩
mutual
theorem chkN_any (d:Nat):∀ (n:Node) (c c':Nat),(qGm d n c).1=(qGm d n c').1
 | .mk t v k,c,c'=>by
  rw [qGm,qGm]
  split
  ·rfl
  ·split
   ·rfl
   ·split
    ·rfl
    ·exact chkL_any (d+1) k _ _
theorem chkL_any (d:Nat):∀ (l:List Node) (c c':Nat),(qDz d l c).1=(qDz d l c').1
 | [],c,c'=>rfl
 | a::l,c,c'=>by
  rw [qDz,qDz,chkN_any d a c c']
  split
  ·exact chkL_any d l _ _
  ·exact chkN_any d a c c'
end
theorem checkR_spec:∀ (n d:Nat) (l:List Node),qAu l≤n→qJx l→l.length≤1000000000→d≤1000 →
  Spec Tryz.prog 230 [.d (.sl 3 (encNs l)),.I (d:Int)] [] (fun r h'=>r=.d (.int .i64 (qDz d l 0).1)∧h'=[]):=by
 intro n
 induction n using Nat.strongRecOn with
 | _ n ih =>
 intro d l hsz hf hl hd
 have hlen:=encNs_length l
 refine qAb hT Tryz.func230 rfl rfl rfl rfl ?_
 intro E hE
 generalize hfin:(qDz d l 0).1=fin
 refine ww ?_
 refine qBg (ι:=Nat) (fun i=>[(0,.d (.sl 3 (encNs l))),(1,.I (d:Int)),(5,.I (i:Int))]) (fun _=>[]) (fun i=>i≤l.length∧(qDz d (l.drop i) 0).1=fin) (fun i=>l.length-i) 0 ⟨by omega,by simpa using hfin⟩
  q1 (HLe.refl _) ?_
 rintro i ⟨hi,hg⟩
 have hwr:IntKind.i64.wrap ((i:Int)+1)=((i+1:Nat):Int):=by rw [qAe (by omega)];simp
 refine ww ?_
 refine qAa rfl (fun h1=>?_) (fun h1=>?_)
 ·have hlt:i < l.length:=by rw [hlen] at h1;simpa using h1
  have hdrop:l.drop i=l[i]::l.drop (i+1):=by simp
  have hel:(encNs l)[((i:Int)).toNat]?=some (qIc l[i]):=by simp [encNs_eq,hlt]
  have hsd:=sizeL_drop l i hlt
  have hsl:=sizeL_drop_le l i
  have hfi:=fitL_at hf l[i] (List.getElem_mem hlt)
  rw [hdrop,qDz] at hg
  generalize l[i]=x at hel hsd hfi hg
  obtain ⟨t,v,k⟩:=x
  rw [qIc] at hel
  have hv:=qOl t hfi.1
  have hcon:=qGw t hfi.1
  have hkl:=encNs_length k
  have hvl:=encB_length v
  have hsk:qCg (.mk t v k)=1+qAu k:=by rw [qCg]
  rw [qGm] at hg
  generalize qCs t=ok at hv hg
  generalize qBd t=con at hcon hg
  refine ww ?_
  refine qAd (qAc (indexAddr_ok hT rfl rfl rfl rfl (by omega) hel)) rfl ?_
  refine ww ?_
  refine qAd (qBl rfl rfl hv rfl rfl rfl) rfl ?_
  refine ww ?_
  refine qAa rfl (fun h2=>?_) (fun h2=>?_)
  ·have h2':ok=false:=by simpa using h2
   simp only [if_pos h2',show ¬ (4:Int)=0 by omega,if_false] at hg
   subst hg
   refine ww ?_
   exact qAg rfl (.refl _) rfl rfl rfl rfl ⟨rfl,rfl⟩
  ·have h2':¬ ok=false:=by simpa using h2
   simp only [if_neg h2'] at hg
   refine ww ?_
   refine qAd (qBl rfl rfl hcon rfl rfl rfl) rfl ?_
   refine ww ?_
   refine qCh rfl rfl rfl (fun hg=>⟨by first | exact True.intro | exact ⟨hg,True.intro⟩ | exact ⟨hg,hg,True.intro⟩,qBl rfl rfl hcon rfl rfl rfl⟩) ?_
   refine ww ?_
   have hcd:((con&&decide (((qAj v).length:Int) > 0))||(!con&&decide (((encNs k).length:Int) > 0)))=true↔((con=false∧k≠[])∨(con=true∧v≠[])):=by
    rw [hkl,hvl,Bool.or_eq_true,Bool.and_eq_true,Bool.and_eq_true,qLj,qLj,Bool.not_eq_true']
    exact Or.comm
   refine qAa rfl (fun h3=>?_) (fun h3=>?_)
   ·have hp:=hcd.1 h3
    simp only [if_pos hp,show ¬ (1:Int)=0 by omega,if_false] at hg
    subst hg
    refine ww ?_
    exact qAg rfl (.refl _) rfl rfl rfl rfl ⟨rfl,rfl⟩
   ·have hp:¬ ((con=false∧k≠[])∨(con=true∧v≠[])):=fun hh=>by have:=hcd.2 hh;rw [h3] at this;cases this
    simp only [if_neg hp] at hg
    refine ww ?_
    refine qAa rfl (fun h5=>?_) (fun h5=>?_)
    ·have h5':8 < d:=by simp at h5;omega
     simp only [if_pos h5',show ¬ (7:Int)=0 by omega,if_false] at hg
     subst hg
     refine ww ?_
     exact qAg rfl (.refl _) rfl rfl rfl rfl ⟨rfl,rfl⟩
    ·have h5':¬ 8 < d:=by simp at h5;omega
     simp only [if_neg h5'] at hg
     have hwd:IntKind.i64.wrap ((d:Int)+1)=((d+1:Nat):Int):=by rw [qAe (by omega)];simp
     have hrec:=ih (qAu k) (by omega) (d+1) k (Nat.le_refl _) hfi.2.2.2 hfi.2.2.1 (by omega)
     rw [← hwd] at hrec
     have hg2:(if (qDz (d+1) k 0).1=0 then (qDz d (l.drop (i+1)) 0).1 else (qDz (d+1) k 0).1)=fin:=by
      rw [← hg,chkL_any (d+1) k 0 (0+1)]
      by_cases h0:(qDz (d+1) k (0+1)).1=0
      ·rw [if_pos h0,if_pos h0];exact chkL_any _ _ _ _
      ·rw [if_neg h0,if_neg h0]
     replace hg:=hg2
     generalize (qDz (d+1) k 0).1=e at hrec hg
     refine ww ?_
     refine qAd (qBl rfl rfl hrec rfl rfl rfl) rfl ?_
     refine ww ?_
     refine qAa rfl (fun h6=>?_) (fun h6=>?_)
     ·have h6':¬ e=0:=by simpa using h6
      rw [if_neg h6'] at hg
      subst hg
      refine ww ?_
      exact qAg rfl (.refl _) rfl rfl rfl rfl ⟨rfl,rfl⟩
     ·have h6':e=0:=by simpa using h6
      rw [if_pos h6'] at hg
      refine ww ?_
      exact ⟨i+1,[_],⟨by omega,hg⟩,by omega,⟨.refl _,.refl _,AV.le.eq (by show AV.d (.int .i64 (IntKind.i64.wrap ((i:Int)+1)))=_;rw [hwr]),trivial⟩,HLe.refl _,hE,rfl,rfl⟩
 ·have hge:i=l.length:=by rw [hlen] at h1;simp at h1;omega
  subst hge
  simp only [List.drop_length,qDz] at hg
  subst hg
  refine ww ?_
  exact qAg rfl (.refl _) rfl rfl rfl rfl ⟨rfl,rfl⟩
mutual
def vHo (most:Nat):Node→Nat
 | .mk _ _ k=>1+qRt most k 0
def qRt (most:Nat):List Node→Nat→Nat
 | [],n=>n
 | a::l,n=>if n≤most then qRt most l (n+vHo most a) else n
end
mutual
theorem cntN_ok (most:Nat):∀ (n:Node),(qCg n≤most→vHo most n=qCg n)∧(most < qCg n→most < vHo most n)
 | .mk t v k=>by
  have h:=cntL_ok most k 0
  rw [qCg,vHo]
  refine ⟨fun h1=>?_,fun h1=>?_⟩
  ·have:=h.1 (by omega);omega
  ·by_cases h2:0+qAu k≤most
   ·have:=h.1 h2;omega
   ·have:=h.2 (by omega);omega
theorem cntL_ok (most:Nat):∀ (l:List Node) (n:Nat),(n+qAu l≤most→qRt most l n=n+qAu l)∧(most < n+qAu l→most < qRt most l n)
 | [],n=>by simp [qRt,qAu]
 | a::l,n=>by
  have ha:=cntN_ok most a
  have hl:=cntL_ok most l (n+vHo most a)
  rw [qAu,qRt]
  refine ⟨fun h1=>?_,fun h1=>?_⟩
  ·rw [if_pos (by omega)]
   have h2:=ha.1 (by omega)
   have:=hl.1 (by omega)
   omega
  ·split
   ·by_cases h2:qCg a≤most
    ·have h3:=ha.1 h2
     exact hl.2 (by omega)
    ·have h3:=ha.2 (by omega)
     exact hl.2 (by omega)
   ·omega
end
mutual
theorem cntN_le (most:Nat):∀ (n:Node),vHo most n≤qCg n
 | .mk t v k=>by have:=cntL_le most k 0;rw [qCg,vHo];omega
theorem cntL_le (most:Nat):∀ (l:List Node) (n:Nat),qRt most l n≤n+qAu l
 | [],n=>by simp [qRt,qAu]
 | a::l,n=>by
  have ha:=cntN_le most a
  have hl:=cntL_le most l (n+vHo most a)
  rw [qAu,qRt]
  split <;> omega
end
theorem vBr (most:Nat) (hm:most≤1000000):∀ (n:Nat) (l:List Node),qAu l≤n→n≤1000000000→l.length≤1000000000→qJx l →
  Spec Tryz.prog 231 [.d (.sl 3 (encNs l)),.I (most:Int)] [] (fun r h'=>r=.I (qRt most l 0:Int)∧h'=[]):=by
 intro n
 induction n using Nat.strongRecOn with
 | _ n ih =>
 intro l hsz hn hl hf
 have hlen:=encNs_length l
 refine qAb hT Tryz.func231 rfl rfl rfl rfl ?_
 intro E hE
 generalize hfin:qRt most l 0=fin
 refine ww ?_
 refine qAq (ι:=Nat×Nat) (fun x=>[(0,.d (.sl 3 (encNs l))),(1,.I (most:Int)),(5,.I (x.2:Int)),(6,.I (x.1:Int))]) (fun _=>[]) (fun x=>x.1≤l.length∧x.2+qAu (l.drop x.1)≤1000000000∧qRt most (l.drop x.1) x.2=fin) (fun x=>l.length-x.1) (0,0) ⟨by simp,by simp only [List.drop_zero];omega,by simpa using hfin⟩
  q1 (HLe.refl _) ?_
 rintro ⟨i,c⟩ ⟨hi,hc,hg⟩
 simp only at hi hc hg ⊢
 have hwr:IntKind.i64.wrap ((i:Int)+1)=((i+1:Nat):Int):=by rw [qAe (by omega)];simp
 refine ww ?_
 refine qAa rfl (fun h1=>?_) (fun h1=>?_)
 ·have h1':i < l.length∧c≤most:=by rw [hlen] at h1;simp at h1;omega
  have hlt:=h1'.1
  have hdrop:l.drop i=l[i]::l.drop (i+1):=by simp
  have hel:(encNs l)[((i:Int)).toNat]?=some (qIc l[i]):=by simp [encNs_eq,hlt]
  have hsd:=sizeL_drop l i hlt
  have hsl:=sizeL_drop_le l i
  have hfi:=fitL_at hf l[i] (List.getElem_mem hlt)
  have hcn:=cntN_le most l[i]
  rw [hdrop,qRt,if_pos h1'.2] at hg
  generalize l[i]=x at hel hsd hfi hg hcn
  obtain ⟨t,v,k⟩:=x
  rw [qIc] at hel
  have hsk:qCg (.mk t v k)=1+qAu k:=by rw [qCg]
  have hrec:=ih (qAu k) (by omega) k (Nat.le_refl _) (by omega) hfi.2.2.1 hfi.2.2.2
  rw [vHo] at hg hcn
  generalize qRt most k 0=ck at hrec hg hcn
  have hw1:IntKind.i64.wrap (1+(ck:Int))=1+(ck:Int):=qAe (by omega)
  have hw2:IntKind.i64.wrap ((c:Int)+IntKind.i64.wrap (1+(ck:Int)))=((c+(1+ck):Nat):Int):=by rw [hw1,qAe (by omega)];omega
  refine ww ?_
  refine qAd (qAc (indexAddr_ok hT rfl rfl rfl rfl (by omega) hel)) rfl ?_
  refine ww ?_
  refine qAd (qBl rfl rfl hrec rfl rfl rfl) rfl ?_
  refine ww ?_
  exact ⟨(i+1,c+(1+ck)),⟨by simp only;omega,by simp only;omega,hg⟩,by simp only;omega,⟨.refl _,.refl _,AV.le.eq (by show AV.d (.int .i64 (IntKind.i64.wrap ((c:Int)+IntKind.i64.wrap (1+(ck:Int)))))=_;rw [hw2]),AV.le.eq (by show AV.d (.int .i64 (IntKind.i64.wrap ((i:Int)+1)))=_;rw [hwr]),trivial⟩,HLe.refl _⟩
 ·have h1':¬ (i < l.length∧c≤most):=by rw [hlen] at h1;simp at h1;omega
  have hce:c=fin:=by
   by_cases h2:i < l.length
   ·have hdrop:l.drop i=l[i]::l.drop (i+1):=by simp
    rw [hdrop,qRt,if_neg (by omega)] at hg
    exact hg
   ·have:i=l.length:=by omega
    subst this
    rw [List.drop_length,qRt] at hg
    exact hg
  subst hce
  refine ww ?_
  exact qAg rfl (.refl _) rfl rfl rfl rfl ⟨rfl,rfl⟩
def qPz (n:Nat):List UInt8:=if n≤127 then [UInt8.ofNat n] else if n≤255 then [129,UInt8.ofNat n] else [130,UInt8.ofNat (n / 256 % 256),UInt8.ofNat (n % 256)]
def cap4 (c:List UInt8):List UInt8:=if c.length > 4096 then c.take 4097 else c
mutual
def vIt:Node→List UInt8
 | .mk t v k=>qLe t++qPz (cap4 (if qBd t=true then qMu k [] else v)).length++cap4 (if qBd t=true then qMu k [] else v)
def qMu:List Node→List UInt8→List UInt8
 | [],out=>out
 | a::l,out=>if out.length≤4096 then qMu l (out++vIt a) else out
end
theorem vEj (c:List UInt8):(cap4 c).length≤4097:=by
 unfold cap4
 split
 ·rw [List.length_take];omega
 ·omega
theorem lenR_le (n:Nat):(qPz n).length≤3:=by unfold qPz;split <;> (try split) <;> simp
theorem tagB_le (t:Int):(qLe t).length≤2:=by unfold qLe;split <;> simp
theorem rawN_le:∀ (n:Node),(vIt n).length≤4102
 | .mk t v k=>by
  rw [vIt]
  have:=vEj (if qBd t=true then qMu k [] else v)
  have:=lenR_le (cap4 (if qBd t=true then qMu k [] else v)).length
  have:=tagB_le t
  simp only [List.length_append];omega
theorem rawL_le:∀ (l:List Node) (out:List UInt8),out.length≤8198→(qMu l out).length≤8198
 | [],out,h=>h
 | a::l,out,h=>by
  rw [qMu]
  split
  ·refine rawL_le l _ ?_
   have:=rawN_le a
   rw [List.length_append];omega
  ·exact h
theorem lenR_eq {n:Nat} (h:n≤4097):qPz n=qQa n:=by
 unfold qPz qQa
 by_cases h1:n≤127
 ·rw [if_pos h1,if_pos (by omega)]
 ·rw [if_neg h1,if_neg (show ¬ n < 128 by omega)]
  by_cases h2:n≤255
  ·have hd:digs 8 n=[UInt8.ofNat n]:=by
    have hz:n / 256=0:=by omega
    show (qZc (7+1) n).reverse=_
    rw [qZc,if_neg (by omega),hz,digL_zero,Nat.mod_eq_of_lt (by omega)]
    rfl
   rw [if_pos h2,hd];rfl
  ·have hd:digs 8 n=[UInt8.ofNat (n / 256 % 256),UInt8.ofNat (n % 256)]:=by
    have hz:n / 256 / 256=0:=by omega
    show (qZc (6+1+1) n).reverse=_
    rw [qZc,if_neg (by omega),qZc,if_neg (by omega),hz,digL_zero]
    rfl
   rw [if_neg h2,hd];rfl
mutual
theorem rawN_ok:∀ (n:Node),((wrN n).length≤4096→vIt n=wrN n)∧(4096 < (wrN n).length→4096 < (vIt n).length)
 | .mk t v k=>by
  have hk:=rawL_ok k []
  rw [vIt,wrN]
  generalize hcw:(if qBd t=true then wrL k else v)=cw
  generalize hcr:(if qBd t=true then qMu k [] else v)=cr
  have hc:(cw.length≤4096→cr=cw)∧(4096 < cw.length→4096 < cr.length):=by
   by_cases hcon:qBd t=true
   ·rw [if_pos hcon] at hcw hcr
    subst hcw;subst hcr
    simpa using hk
   ·rw [if_neg hcon] at hcw hcr
    subst hcw;subst hcr
    exact ⟨fun _=>rfl,fun h=>h⟩
  refine ⟨fun h=>?_,fun h=>?_⟩
  ·simp only [List.length_append] at h
   have h1:cw.length≤4096:=by omega
   rw [hc.1 h1]
   have h2:cap4 cw=cw:=by unfold cap4;rw [if_neg (by omega)]
   rw [h2,lenR_eq (by omega)]
  ·by_cases h1:cw.length≤4096
   ·rw [hc.1 h1]
    have h2:cap4 cw=cw:=by unfold cap4;rw [if_neg (by omega)]
    rw [h2,lenR_eq (by omega)]
    exact h
   ·have h3:=hc.2 (by omega)
    have h2:(cap4 cr).length=4097:=by unfold cap4;rw [if_pos h3];simp;omega
    simp only [List.length_append,h2];omega
theorem rawL_ok:∀ (l:List Node) (out:List UInt8),((out++wrL l).length≤4096→qMu l out=out++wrL l)∧(4096 < (out++wrL l).length→4096 < (qMu l out).length)
 | [],out=>by simp [qMu,wrL]
 | a::l,out=>by
  have ha:=rawN_ok a
  have hl:=rawL_ok l (out++vIt a)
  rw [qMu,wrL]
  simp only [List.length_append] at hl ⊢
  refine ⟨fun h=>?_,fun h=>?_⟩
  ·have h1:=ha.1 (by omega)
   rw [h1] at hl ⊢
   rw [if_pos (by omega),hl.1 (by omega),List.append_assoc]
  ·split
   ·by_cases h1:(wrN a).length≤4096
    ·have h2:=ha.1 h1
     rw [h2] at hl ⊢
     exact hl.2 (by omega)
    ·have h2:=ha.2 (by omega)
     exact hl.2 (by omega)
   ·omega
end
theorem encodeR_eq (l:List Node):qBj l=if (qDz 1 l 0).1≠0 then ([],(qDz 1 l 0).1) else if qRt 256 l 0 > 256 then ([],2) else if (qMu l []).length > 4096 then ([],2) else (qMu l [],0):=by
 unfold qBj
 by_cases h1:(qDz 1 l 0).1≠0
 ·rw [if_pos h1,if_pos h1]
 ·rw [if_neg h1,if_neg h1]
  have hc:=(chkL_count 1 l 0).2 (by omega)
  have hn:=cntL_ok 256 l 0
  have hr:=rawL_ok l []
  simp only [List.nil_append] at hr
  by_cases h2:qAu l > 256
  ·rw [if_pos (by omega),if_pos (hn.2 (by omega))]
  ·have:=hn.1 (by omega)
   rw [if_neg (show ¬ (qDz 1 l 0).2 > 256 by omega),if_neg (show ¬ qRt 256 l 0 > 256 by omega)]
   by_cases h3:(wrL l).length > 4096
   ·rw [if_pos h3,if_pos (hr.2 h3)]
   ·rw [if_neg h3,hr.1 (by omega),if_neg h3]
set_option maxHeartbeats 2000000 in
set_option maxRecDepth 100000 in
theorem lengthR_spec (n:Nat) (hn:n≤65535):Spec Tryz.prog 316 [.I (n:Int)] [] (fun r h'=>r=.d (.sl 1 (qAj (qPz n)))∧h'=[]):=by
 refine qAb hT Tryz.func316 rfl rfl rfl rfl ?_
 intro E hE
 refine ww ?_
 refine qAa rfl (fun h1=>?_) (fun h1=>?_)
 ·have h1':n≤127:=by simp at h1;omega
  have hw8:IntKind.u8.wrap (n:Int)=((UInt8.ofNat n).toNat:Int):=by rw [toNat_ofNat (by omega)];exact wrapu8 (by omega)
  rw [show qPz n=[UInt8.ofNat n] by unfold qPz;rw [if_pos h1'],show qAj [UInt8.ofNat n]=[[.int .u8 (IntKind.u8.wrap (n:Int))]] by rw [hw8];rfl]
  refine ww ?_
  exact qAg rfl AV.le.dat rfl rfl rfl rfl ⟨rfl,rfl⟩
 ·have h1':¬ n≤127:=by simp at h1;omega
  refine ww ?_
  refine qAa rfl (fun h2=>?_) (fun h2=>?_)
  ·have h2':n≤255:=by simp at h2;omega
   have hw8:IntKind.u8.wrap (n:Int)=((UInt8.ofNat n).toNat:Int):=by rw [toNat_ofNat (by omega)];exact wrapu8 (by omega)
   rw [show qPz n=[129,UInt8.ofNat n] by unfold qPz;rw [if_neg h1',if_pos h2'],show qAj [129,UInt8.ofNat n]=[[.int .u8 129],[.int .u8 (IntKind.u8.wrap (n:Int))]] by rw [hw8];rfl]
   refine ww ?_
   exact qAg rfl AV.le.dat rfl rfl rfl rfl ⟨rfl,rfl⟩
  ·have h2':¬ n≤255:=by simp at h2;omega
   have hlo:IntKind.u8.wrap (n:Int)=((UInt8.ofNat (n % 256)).toNat:Int):=by rw [qCi,toNat_ofNat (Nat.mod_lt _ (by omega))];simp
   have hshr:Int.fdiv (n:Int) (2 ^ (min (8:Int).toNat IntKind.i64.bits))=((n / 256:Nat):Int):=qDy n 8
   have hhi:IntKind.u8.wrap (Int.fdiv (n:Int) (2 ^ (min (8:Int).toNat IntKind.i64.bits)))=((UInt8.ofNat (n / 256 % 256)).toNat:Int):=by rw [hshr,qCi,toNat_ofNat (Nat.mod_lt _ (by omega))];simp
   rw [show qPz n=[130,UInt8.ofNat (n / 256 % 256),UInt8.ofNat (n % 256)] by unfold qPz;rw [if_neg h1',if_neg h2'],
    show qAj [130,UInt8.ofNat (n / 256 % 256),UInt8.ofNat (n % 256)]=[[.int .u8 130],[.int .u8 (IntKind.u8.wrap (Int.fdiv (n:Int) (2 ^ (min (8:Int).toNat IntKind.i64.bits))))],[.int .u8 (IntKind.u8.wrap (n:Int))]] by rw [hlo,hhi];rfl]
   refine ww ?_
   exact qAg rfl AV.le.dat rfl rfl rfl rfl ⟨rfl,rfl⟩
theorem vEk (c:List UInt8) (h:4096 < c.length):(qAj c).take 4097=qAj (cap4 c):=by unfold cap4;rw [if_pos h,encB_take]
theorem vGq:∀ (n:Nat) (l:List Node),qAu l≤n→qZy l→l.length≤1000000000→qJx l →
  Spec Tryz.prog 232 [.d (.sl 3 (encNs l))] [] (fun r h'=>r=.d (.sl 1 (qAj (qMu l [])))∧h'=[]):=by
 intro n
 induction n using Nat.strongRecOn with
 | _ n ih =>
 intro l hsz htg hl hf
 have hlen:=encNs_length l
 generalize hfin:qMu l []=fin
 refine qAb hT Tryz.func232 rfl rfl rfl rfl ?_
 intro E hE
 refine qAo ?_
 refine qAl (qAf ?_)
 refine wws ?_
 refine qAl (qAf ?_)
 refine wws ?_
 refine qBb 3 1 0 (es:=[]) (.inr ⟨rfl,rfl⟩) rfl ?_
 refine ww ?_
 refine qAq (ι:=Nat×List UInt8) (fun x=>[(3,.sl 1 (qAj x.2) (.right 0)),(0,.d (.sl 3 (encNs l))),(4,.I (x.1:Int))]) (fun x=>[.right 1 (qAj x.2).length])
  (fun x=>x.1≤l.length∧x.2.length≤8198∧qMu (l.drop x.1) x.2=fin) (fun x=>l.length-x.1) (0,[]) ⟨by simp,by simp,by simpa using hfin⟩ q1 (HLe.refl _) ?_
 rintro ⟨i,out⟩ ⟨hi,hob,hg⟩
 simp only at hi hob hg ⊢
 have hwr:IntKind.i64.wrap ((i:Int)+1)=((i+1:Nat):Int):=by rw [qAe (by omega)];simp
 have hol:=encB_length out
 refine ww ?_
 refine qAa rfl (fun h1=>?_) (fun h1=>?_)
 ·have h1':i < l.length∧out.length≤4096:=by rw [hlen,hol] at h1;simp at h1;omega
  have hlt:=h1'.1
  have hdrop:l.drop i=l[i]::l.drop (i+1):=by simp
  have hel:(encNs l)[((i:Int)).toNat]?=some (qIc l[i]):=by simp [encNs_eq,hlt]
  have hmem:l[i]∈l:=List.getElem_mem hlt
  have hsm:=sizeN_mem hmem
  have htm:=tagsL_at htg _ hmem
  have hfm:=fitL_at hf _ hmem
  have hrn:=rawN_le l[i]
  rw [hdrop,qMu,if_pos h1'.2] at hg
  generalize l[i]=x at hel hsm htm hfm hg hrn
  obtain ⟨t,v,k⟩:=x
  rw [qIc] at hel
  rw [qCg] at hsm
  have htr:=tagOk_range htm.1
  obtain ⟨tn,rfl⟩:=Int.eq_ofNat_of_zero_le (show 0≤t by omega)
  have hcon:=qGw (tn:Int) (by omega)
  have hrec:Spec Tryz.prog 232 [.d (.sl 3 (encNs k))] [] (fun r h'=>r=.d (.sl 1 (qAj (qMu k [])))∧h'=[]):=ih (qAu k) (by omega) k (Nat.le_refl _) htm.2 hfm.2.2.1 hfm.2.2.2
  rw [vIt] at hg hrn
  have hkb:=rawL_le k [] (by simp)
  generalize qBd (tn:Int)=con at hcon hg hrn
  generalize qMu k []=rk at hrec hg hrn hkb
  generalize hc:(if con=true then rk else v)=c at hg hrn
  have hcl:=vEj c
  have hll:=encB_length (cap4 c)
  have hlsp:Spec Tryz.prog 316 [.I ((qAj (cap4 c)).length:Int)] [] (fun r h'=>r=.d (.sl 1 (qAj (qPz (cap4 c).length)))∧h'=[]):=by rw [hll];exact lengthR_spec (cap4 c).length (by omega)
  have hlo:IntKind.u8.wrap (tn:Int)=((UInt8.ofNat (tn % 256)).toNat:Int):=by rw [qCi,toNat_ofNat (Nat.mod_lt _ (by omega))];simp
  have hshr:Int.fdiv (tn:Int) (2 ^ (min (8:Int).toNat IntKind.i64.bits))=((tn / 256:Nat):Int):=qDy tn 8
  have hhi:IntKind.u8.wrap (Int.fdiv (tn:Int) (2 ^ (min (8:Int).toNat IntKind.i64.bits)))=((UInt8.ofNat (tn / 256 % 256)).toNat:Int):=by rw [hshr,qCi,toNat_ofNat (Nat.mod_lt _ (by omega))];simp
  generalize hhd:(if tn > 255 then [UInt8.ofNat (tn / 256 % 256)] else [])=hd
  have htb:qLe (tn:Int)=hd++[UInt8.ofNat (tn % 256)]:=by
   have e1:((tn:Int) / 256 % 256).toNat=tn / 256 % 256:=by omega
   have e2:((tn:Int) % 256).toNat=tn % 256:=by omega
   unfold qLe
   rw [e1,e2,← hhd]
   by_cases h9:tn > 255
   ·rw [if_pos (by omega),if_pos h9];rfl
   ·rw [if_neg (by omega),if_neg h9];rfl
  rw [htb] at hg hrn
  simp only [List.length_append,List.length_singleton] at hrn
  refine qBw ?_
  refine qAl (qDt (qAl (qAf ?_)))
  refine wws ?_
  refine qAd (qAc (indexAddr_ok hT rfl rfl rfl rfl (by omega) hel)) rfl ?_
  refine wws ?_
  refine qCf (ι:=Unit) (fun _=>[(3,.sl 1 (qAj out) (.right 0)),(0,.d (.sl 3 (encNs l))),(4,.I (i:Int)),(5,.d (.sl 1 (qAj c)))])
   (fun _=>[.right 1 (qAj out).length]) (fun _=>True) ?_ (fun _ _=>?_)
  ·refine ww ?_
   refine qAd (qAc (indexAddr_ok hT rfl rfl rfl rfl (by omega) hel)) rfl ?_
   refine wws ?_
   refine qAd (qBl rfl rfl hcon rfl rfl rfl) rfl ?_
   refine wws ?_
   refine qAa rfl (fun h2=>?_) (fun h2=>?_)
   ·refine ww ?_
    refine qAd (qAc (indexAddr_ok hT rfl rfl rfl rfl (by omega) hel)) rfl ?_
    refine wws ?_
    refine qAd (qBl rfl rfl hrec rfl rfl rfl) rfl ?_
    refine ww ?_
    exact ⟨(),trivial,⟨.refl _,.refl _,.refl _,AV.le.eq (by rw [← hc,if_pos h2];rfl),trivial⟩,HLe.refl _⟩
   ·have h2':¬ con=true:=by simp [h2]
    refine ww ?_
    exact ⟨(),trivial,⟨.refl _,.refl _,.refl _,AV.le.eq (by rw [← hc,if_neg h2'];rfl),trivial⟩,HLe.refl _⟩
  refine qCf (ι:=Unit) (fun _=>[(3,.sl 1 (qAj (out++hd)) (.right 0)),(0,.d (.sl 3 (encNs l))),(4,.I (i:Int)),(5,.d (.sl 1 (qAj c)))])
   (fun _=>[.right 1 (qAj (out++hd)).length]) (fun _=>True) ?_ (fun _ _=>?_)
  ·refine ww ?_
   refine qAd (qAc (indexAddr_ok hT rfl rfl rfl rfl (by omega) hel)) rfl ?_
   refine wws ?_
   refine qAa rfl (fun h2=>?_) (fun h2=>?_)
   ·have h2':tn > 255:=by simp at h2;omega
    rw [if_pos h2'] at hhd
    subst hhd
    refine ww ?_
    refine qAd (qAc (indexAddr_ok hT rfl rfl rfl rfl (by omega) hel)) rfl ?_
    refine wws ?_
    refine qAd (qAh (i:=0) hT rfl rfl rfl rfl rfl rfl (by show ((qAj out).length+1)*(1+1)≤_;rw [encB_length];omega)) rfl ?_
    refine ww ?_
    refine ⟨(),trivial,⟨AV.le.eq ?_,.refl _,.refl _,.refl _,trivial⟩,⟨⟨rfl,?_⟩,trivial⟩⟩
    ·show AV.sl 1 (qAj out++[[.int .u8 (IntKind.u8.wrap (Int.fdiv (tn:Int) (2 ^ (min (8:Int).toNat IntKind.i64.bits))))]]) (.right 0)=_
     rw [hhi,encB_append];rfl
    ·show (qAj out++[[Dat.int .u8 (IntKind.u8.wrap (Int.fdiv (tn:Int) (2 ^ (min (8:Int).toNat IntKind.i64.bits))))]]).length=_
     rw [hhi,encB_append];rfl
   ·have h2':¬ tn > 255:=by simp at h2;omega
    rw [if_neg h2'] at hhd
    subst hhd
    refine ww ?_
    refine ⟨(),trivial,⟨AV.le.eq (by rw [List.append_nil];rfl),.refl _,.refl _,.refl _,trivial⟩,⟨⟨rfl,by rw [List.append_nil]⟩,trivial⟩⟩
  have hol2:=encB_length (out++hd)
  rw [List.length_append] at hol2
  have hlbl:=encB_length (qPz (cap4 c).length)
  refine ww ?_
  refine qAd (qAc (indexAddr_ok hT rfl rfl rfl rfl (by omega) hel)) rfl ?_
  refine wws ?_
  refine qAd (qAh (i:=0) hT rfl rfl rfl rfl rfl rfl (by show ((qAj (out++hd)).length+1)*(1+1)≤_;omega)) rfl ?_
  refine wws ?_
  refine qCf (ι:=Unit) (fun _=>[(3,.sl 1 (qAj (out++hd)++[[Dat.int .u8 (IntKind.u8.wrap (tn:Int))]]) (.right 0)),(0,.d (.sl 3 (encNs l))),(4,.I (i:Int)),(5,.d (.sl 1 (qAj (cap4 c))))])
   (fun _=>[.right 1 (qAj (out++hd)++[[Dat.int .u8 (IntKind.u8.wrap (tn:Int))]]).length]) (fun _=>True) ?_ (fun _ _=>?_)
  ·have hcb:=encB_length c
   refine ww ?_
   refine qAa rfl (fun h2=>?_) (fun h2=>?_)
   ·have h2':4096 < c.length:=by rw [hcb] at h2;simp at h2;omega
    refine ww ?_
    exact ⟨(),trivial,⟨.refl _,.refl _,.refl _,AV.le.eq (by show AV.d (.sl 1 ((qAj c).take 4097))=_;rw [vEk c h2']),trivial⟩,HLe.refl _⟩
   ·have h2':¬ c.length > 4096:=by rw [hcb] at h2;simp at h2;omega
    refine ww ?_
    exact ⟨(),trivial,⟨.refl _,.refl _,.refl _,AV.le.eq (by unfold cap4;rw [if_neg h2'];rfl),trivial⟩,HLe.refl _⟩
  refine ww ?_
  refine qAd (qBl rfl rfl hlsp rfl rfl rfl) rfl ?_
  refine qAd (qAh (i:=0) hT rfl rfl rfl rfl rfl rfl (by show ((qAj (out++hd)++[[Dat.int .u8 (IntKind.u8.wrap (tn:Int))]]).length+(qAj (qPz (cap4 c).length)).length)*(1+1)≤_;rw [List.length_append,List.length_singleton];omega)) rfl ?_
  refine ww ?_
  refine qAd (qAh (i:=0) hT rfl rfl rfl rfl rfl rfl (by show ((qAj (out++hd)++[[Dat.int .u8 (IntKind.u8.wrap (tn:Int))]]++qAj (qPz (cap4 c).length)).length+(qAj (cap4 c)).length)*(1+1)≤_;rw [List.length_append,List.length_append,List.length_singleton];omega)) rfl ?_
  refine ww ?_
  have hres:qAj (out++(hd++[UInt8.ofNat (tn % 256)]++qPz (cap4 c).length++cap4 c))=qAj (out++hd)++[[Dat.int .u8 (IntKind.u8.wrap (tn:Int))]]++qAj (qPz (cap4 c).length)++qAj (cap4 c):=by
   rw [hlo];simp only [encB_append,List.append_assoc];rfl
  exact ⟨(i+1,out++(hd++[UInt8.ofNat (tn % 256)]++qPz (cap4 c).length++cap4 c)),⟨by simp only;omega,by simp only [List.length_append,List.length_singleton];omega,hg⟩,by simp only;omega,⟨AV.le.eq (by rw [hres];rfl),.refl _,AV.le.eq (by show AV.d (.int .i64 (IntKind.i64.wrap ((i:Int)+1)))=_;rw [hwr]),trivial⟩,⟨⟨rfl,by rw [hres]⟩,trivial⟩⟩
 ·have h1':¬ (i < l.length∧out.length≤4096):=by rw [hlen,hol] at h1;simp at h1;omega
  have hce:out=fin:=by
   by_cases h2:i < l.length
   ·have hdrop:l.drop i=l[i]::l.drop (i+1):=by simp
    rw [hdrop,qMu,if_neg (by omega)] at hg
    exact hg
   ·have:i=l.length:=by omega
    subst this
    rw [List.drop_length,qMu] at hg
    exact hg
  subst hce
  refine ww ?_
  exact qAg rfl AV.le.dat rfl rfl rfl rfl ⟨rfl,rfl⟩
set_option maxHeartbeats 4000000 in
set_option maxRecDepth 100000 in
theorem qVc (l:List Node) (hl:l.length≤1000000000) (hf:qJx l) (hsz:qAu l≤100000000) :
  Spec Tryz.prog 130 [.d (.sl 3 (encNs l))] [] (fun r h'=>r=.tup [.d (.sl 1 (qAj (qBj l).1)),.d (.int .i64 (qBj l).2)]∧h'=[]):=by
 have hchk:=checkR_spec (qAu l) 1 l (Nat.le_refl _) hf hl (by omega)
 have htag:=chkL_tags 1 l 0
 have hcnt:=vBr 256 (by omega) (qAu l) l (Nat.le_refl _) (by omega) hl hf
 rw [encodeR_eq]
 generalize (qDz 1 l 0).1=e at hchk htag
 generalize qRt 256 l 0=c at hcnt
 refine qAb hT Tryz.func130 rfl rfl rfl rfl ?_
 intro E hE
 refine ww ?_
 refine qAd (qBl rfl rfl hchk rfl rfl rfl) rfl ?_
 refine ww ?_
 refine qAa rfl (fun h1=>?_) (fun h1=>?_)
 ·have h1':e≠0:=by simpa using h1
  rw [if_pos h1']
  refine ww ?_
  exact qAg (r:=.tup [.d (.sl 1 (qAj [])),.I e]) rfl (AV.le.tup ⟨AV.le.nils,.refl _,trivial⟩) rfl rfl rfl rfl ⟨rfl,rfl⟩
 ·have h1':¬ e≠0:=by simpa using h1
  rw [if_neg h1']
  refine ww ?_
  refine qAd (qBl rfl rfl hcnt rfl rfl rfl) rfl ?_
  refine ww ?_
  refine qAa rfl (fun h2=>?_) (fun h2=>?_)
  ·have h2':c > 256:=by simp at h2;omega
   rw [if_pos h2']
   refine ww ?_
   exact qAg (r:=.tup [.d (.sl 1 (qAj [])),.I 2]) rfl (AV.le.tup ⟨AV.le.nils,.refl _,trivial⟩) rfl rfl rfl rfl ⟨rfl,rfl⟩
  ·have h2':¬ c > 256:=by simp at h2;omega
   rw [if_neg h2']
   have hwr:=vGq (qAu l) l (Nat.le_refl _) (htag (by omega)) hl hf
   have hwl:=encB_length (qMu l [])
   generalize qMu l []=s at hwr hwl
   refine ww ?_
   refine qAd (qBl rfl rfl hwr rfl rfl rfl) rfl ?_
   refine ww ?_
   refine qAa rfl (fun h3=>?_) (fun h3=>?_)
   ·have h3':s.length > 4096:=by rw [hwl] at h3;simp at h3;omega
    rw [if_pos h3']
    refine ww ?_
    exact qAg (r:=.tup [.d (.sl 1 (qAj [])),.I 2]) rfl (AV.le.tup ⟨AV.le.nils,.refl _,trivial⟩) rfl rfl rfl rfl ⟨rfl,rfl⟩
   ·have h3':¬ s.length > 4096:=by rw [hwl] at h3;simp at h3;omega
    rw [if_neg h3']
    refine ww ?_
    exact qAg rfl (.refl _) rfl rfl rfl rfl ⟨rfl,rfl⟩
theorem lenB_le (n:Nat):(qQa n).length≤9:=by
 have:(digs 8 n).length≤8:=by unfold digs;rw [List.length_reverse];exact digL_length 8 n
 unfold qQa
 split
 ·simp
 ·rw [List.length_cons];omega
theorem wrL_one_le (t:Int) (v:List UInt8) (l:List Node):(wrL [.mk t v l]).length≤11+v.length+(wrL l).length:=by
 have h1:=lenB_le (wrL l).length
 have h2:=lenB_le v.length
 have h3:=tagB_le t
 simp only [wrL,wrN,List.length_append,List.length_nil]
 split <;> omega
def qEf (n:Int) (l:List Node):List UInt8×Int:=if (qMr n).2≠0 then ([],(qMr n).2) else qBj [.mk (qMr n).1 [] l]
theorem tagR_range (n:Int):0≤(qMr n).1∧(qMr n).1≤255:=by
 unfold qMr
 split
 ·simp
 ·rename_i h
  obtain ⟨x,hx,_,_⟩:=tagD_at (i:=(n-1).toNat) (by omega)
  rw [hx]
  have hm:=List.mem_of_getElem? hx
  have:∀ y,y∈tagTab→0≤y∧y≤255:=by decide
  exact this x hm
set_option maxHeartbeats 4000000 in
set_option maxRecDepth 100000 in
theorem qGv (n:Int) (hn : -9223372036854775808≤n∧n≤9223372036854775807) (l:List Node) (hl:l.length≤1000000000) (hf:qJx l) (hsz:qAu l≤10000000) (hw:(wrL l).length≤100000000) :
  Spec Tryz.prog 174 [.I n,.d (.sl 3 (encNs l))] [] (fun r h'=>r=.tup [.d (.sl 1 (qAj (qEf n l).1)),.d (.int .i64 (qEf n l).2)]∧h'=[]):=by
 have htag:=vHy n hn
 have hrg:=tagR_range n
 unfold qEf
 generalize qMr n=q at htag hrg
 obtain ⟨t,e⟩:=q
 simp only at htag hrg ⊢
 have henc:=qFv [.mk t [] l] (by simp) ⟨⟨by omega,by simp,hl,hf⟩,trivial⟩ (by simp only [qAu,qCg];omega) (by have:=wrL_one_le t [] l;simp only [List.length_nil] at this;omega)
 generalize qBj [.mk t [] l]=en at henc
 obtain ⟨b,f⟩:=en
 refine qAb hT Tryz.func174 rfl rfl rfl rfl ?_
 intro E hE
 refine ww ?_
 refine qAd (qBl rfl rfl htag rfl rfl rfl) rfl ?_
 refine ww ?_
 refine qAa rfl (fun h1=>?_) (fun h1=>?_)
 ·have h1':e≠0:=by simpa using h1
  rw [if_pos h1']
  refine ww ?_
  exact qAg (r:=.tup [.d (.sl 1 (qAj [])),.I e]) rfl (AV.le.tup ⟨AV.le.nils,.refl _,trivial⟩) rfl rfl rfl rfl ⟨rfl,rfl⟩
 ·have h1':¬ e≠0:=by simpa using h1
  rw [if_neg h1']
  refine ww ?_
  refine qAd (qKa rfl rfl henc rfl (by exact ⟨AV.le.dat,trivial⟩) rfl rfl) rfl ?_
  refine ww ?_
  exact qAg rfl (.refl _) rfl rfl rfl rfl ⟨rfl,rfl⟩
end Tdoc
