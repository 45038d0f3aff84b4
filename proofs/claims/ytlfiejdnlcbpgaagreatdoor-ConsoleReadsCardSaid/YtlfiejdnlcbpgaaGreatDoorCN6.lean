/- Part 6 of the proof: the texts C1 WW P1 P2 P3 P4 P5 P6 P7 E1 Y1 E2 E3. -/
import Derived.Test.YtlfiejdnlcbpgaaGreatDoorProg
import Derived.Test.YtlfiejdnlcbpgaaGreatDoorCN4
set_option linter.unusedVariables false
set_option linter.unusedSimpArgs false
namespace Tdoc
open Go Go.Proofs
def T:Tr:=(.nd (.nd (.nd (.nd (.nd (.nd (.nd (.nd .lf 2 ⟨.int .i64,1,8,[.d (.int .i64 0)]⟩ .lf) 3 ⟨.int .i64,1,8,[.d (.int .i64 0)]⟩ (.nd .lf 4 ⟨.bool,1,1,[.d (.bool false)]⟩ .lf)) 5 ⟨.int .u8,1,1,[.d (.int .u8 0)]⟩ (.nd (.nd .lf 9 ⟨.str,1,16,[.d (.str [])]⟩ .lf) 12 ⟨.int .u64,1,8,[.d (.int .u64 0)]⟩ .lf)) 20 ⟨.other,1,16,[.ifc true]⟩ (.nd (.nd (.nd .lf 21 ⟨.int .i32,1,4,[.d (.int .i32 0)]⟩ .lf) 23 ⟨.slice 3,1,24,[.sl 1 [] .full]⟩ .lf) 24 ⟨.slice 92,1,24,[.sl 5 [] .full]⟩ (.nd (.nd .lf 26 ⟨.struct [(0,1,false),(1,1,false)],2,32,[.sl 5 [] .full,.d (.int .i64 0)]⟩ .lf) 28 ⟨.struct [(0,1,false),(1,1,false),(2,1,false),(3,1,false),(4,1,false),(5,1,false),(6,1,false),(7,1,false),(8,1,false),(9,2,true),(11,1,false)],12,192,[.d (.str []),.d (.str []),.d (.str []),.d (.str []),.d (.str []),.d (.str []),.d (.int .i64 0),.sl 1 [] .full,.d (.bool false),.sl 5 [] .full,.d (.int .i64 0),.sl 1 [] .full]⟩ .lf))) 29 ⟨.slice 55,1,24,[.sl 3 [] .full]⟩ (.nd (.nd (.nd (.nd .lf 31 ⟨.struct [(0,1,false),(1,1,false)],2,48,[.sl 1 [] .full,.sl 3 [] .full]⟩ .lf) 33 ⟨.struct [(0,1,false),(1,1,false),(2,1,false),(3,1,false),(4,1,false),(5,1,false),(6,12,true),(18,2,true)],20,304,[.d (.int .i64 0),.d (.int .i64 0),.d (.int .i64 0),.d (.int .i64 0),.d (.str []),.d (.str []),.d (.str []),.d (.str []),.d (.str []),.d (.str []),.d (.str []),.d (.str []),.d (.int .i64 0),.sl 1 [] .full,.d (.bool false),.sl 5 [] .full,.d (.int .i64 0),.sl 1 [] .full,.sl 1 [] .full,.sl 3 [] .full]⟩ .lf) 34 ⟨.int .i64,1,8,[.d (.int .i64 0)]⟩ (.nd (.nd .lf 39 ⟨.slice 9,1,24,[.sl 1 [] .full]⟩ .lf) 44 ⟨.ptr,1,8,[.nilp]⟩ .lf)) 47 ⟨.struct [(0,1,false),(1,1,false)],2,32,[.sl 1 [] .full,.d (.int .i64 0)]⟩ (.nd (.nd (.nd .lf 55 ⟨.struct [(0,1,false),(1,1,false),(2,1,false)],3,24,[.d (.int .i64 0),.d (.int .i64 0),.d (.int .i64 0)]⟩ .lf) 59 ⟨.slice 169,1,24,[.sl 33 [] .full]⟩ .lf) 60 ⟨.slice 199,1,24,[.sl 62 [] .full]⟩ (.nd (.nd .lf 61 ⟨.slice 209,1,24,[.sl 11 [] .full]⟩ .lf) 63 ⟨.struct [(0,1,false),(1,1,false),(2,1,false),(3,1,false)],4,80,[.d (.int .i64 0),.sl 33 [] .full,.sl 62 [] .full,.sl 11 [] .full]⟩ .lf)))) 67 ⟨.slice 20,1,24,[.sl 1 [] .full]⟩ (.nd (.nd (.nd (.nd (.nd .lf 69 ⟨.ptr,1,8,[.nilp]⟩ .lf) 74 ⟨.ptr,1,8,[.nilp]⟩ .lf) 76 ⟨.struct [(0,1,false),(1,1,false)],2,32,[.sl 1 [] .full,.d (.bool false)]⟩ (.nd (.nd .lf 79 ⟨.ptr,1,8,[.nilp]⟩ .lf) 81 ⟨.struct [(0,1,false),(1,1,false)],2,24,[.d (.str []),.d (.bool false)]⟩ .lf)) 92 ⟨.struct [(0,1,false),(1,1,false),(2,1,false),(3,1,false),(4,1,false)],5,48,[.d (.str []),.d (.int .i64 0),.d (.int .i64 0),.d (.int .i64 0),.d (.int .i64 0)]⟩ (.nd (.nd (.nd .lf 93 ⟨.slice 112,1,24,[.sl 21 [] .full]⟩ .lf) 98 ⟨.slice 5,1,24,[.sl 1 [] .full]⟩ .lf) 99 ⟨.slice 98,1,24,[.sl 1 [] .full]⟩ (.nd (.nd .lf 101 ⟨.struct [(0,1,false),(1,1,false),(2,1,false),(3,1,false),(4,1,false)],5,72,[.d (.bool false),.d (.int .i64 0),.d (.int .i64 0),.sl 1 [] .full,.sl 1 [] .full]⟩ .lf) 103 ⟨.struct [(0,1,false),(1,1,false)],2,16,[.d (.int .i64 0),.d (.int .i64 0)]⟩ .lf))) 105 ⟨.struct [(0,1,false),(1,1,false),(2,2,true)],4,48,[.d (.bool false),.sl 1 [] .full,.d (.int .i64 0),.d (.int .i64 0)]⟩ (.nd (.nd (.nd (.nd .lf 107 ⟨.struct [(0,1,false),(1,1,false),(2,1,false),(3,1,false),(4,1,false),(5,1,false),(6,1,false),(7,5,true),(12,4,true)],16,264,[.d (.str []),.sl 1 [] .full,.sl 1 [] .full,.d (.int .i64 0),.sl 1 [] .full,.sl 1 [] .full,.sl 1 [] .full,.d (.bool false),.d (.int .i64 0),.d (.int .i64 0),.sl 1 [] .full,.sl 1 [] .full,.d (.bool false),.sl 1 [] .full,.d (.int .i64 0),.d (.int .i64 0)]⟩ .lf) 108 ⟨.slice 153,1,24,[.sl 2 [] .full]⟩ .lf) 110 ⟨.struct [(0,1,false),(1,1,false),(2,1,false)],3,40,[.d (.int .i64 0),.d (.int .i64 0),.sl 2 [] .full]⟩ (.nd (.nd .lf 112 ⟨.struct [(0,16,true),(16,1,false),(17,3,true),(20,1,false)],21,336,[.d (.str []),.sl 1 [] .full,.sl 1 [] .full,.d (.int .i64 0),.sl 1 [] .full,.sl 1 [] .full,.sl 1 [] .full,.d (.bool false),.d (.int .i64 0),.d (.int .i64 0),.sl 1 [] .full,.sl 1 [] .full,.d (.bool false),.sl 1 [] .full,.d (.int .i64 0),.d (.int .i64 0),.sl 2 [] .full,.d (.int .i64 0),.d (.int .i64 0),.sl 2 [] .full,.d (.int .i64 0)]⟩ .lf) 119 ⟨.ptr,1,8,[.nilp]⟩ .lf)) 120 ⟨.ptr,1,8,[.nilp]⟩ (.nd (.nd (.nd .lf 121 ⟨.ptr,1,8,[.nilp]⟩ .lf) 122 ⟨.ptr,1,8,[.nilp]⟩ .lf) 123 ⟨.ptr,1,8,[.nilp]⟩ (.nd (.nd .lf 124 ⟨.ptr,1,8,[.nilp]⟩ .lf) 125 ⟨.ptr,1,8,[.nilp]⟩ .lf))))) 127 ⟨.str,1,16,[.d (.str [])]⟩ (.nd (.nd (.nd (.nd (.nd (.nd .lf 129 ⟨.ptr,1,8,[.nilp]⟩ .lf) 131 ⟨.struct [(0,1,false),(1,1,false)],2,32,[.nilp,.sl 1 [] .full]⟩ .lf) 132 ⟨.other,1,16,[.ifc true]⟩ (.nd (.nd .lf 133 ⟨.other,1,16,[.ifc true]⟩ .lf) 143 ⟨.ptr,1,8,[.nilp]⟩ .lf)) 146 ⟨.struct [(0,4,true),(4,20,true),(24,1,false)],25,408,[.d (.int .i64 0),.sl 33 [] .full,.sl 62 [] .full,.sl 11 [] .full,.d (.int .i64 0),.d (.int .i64 0),.d (.int .i64 0),.d (.int .i64 0),.d (.str []),.d (.str []),.d (.str []),.d (.str []),.d (.str []),.d (.str []),.d (.str []),.d (.str []),.d (.int .i64 0),.sl 1 [] .full,.d (.bool false),.sl 5 [] .full,.d (.int .i64 0),.sl 1 [] .full,.sl 1 [] .full,.sl 3 [] .full,.sl 21 [] .full]⟩ (.nd (.nd (.nd .lf 153 ⟨.struct [(0,1,false),(1,1,false)],2,16,[.d (.int .i64 0),.d (.int .i64 0)]⟩ .lf) 154 ⟨.slice 23,1,24,[.sl 1 [] .full]⟩ .lf) 158 ⟨.ptr,1,8,[.nilp]⟩ (.nd (.nd .lf 164 ⟨.slice 166,1,24,[.sl 11 [] .full]⟩ .lf) 166 ⟨.struct [(0,1,false),(1,1,false),(2,1,false),(3,1,false),(4,1,false),(5,1,false),(6,1,false),(7,1,false),(8,1,false),(9,2,true)],11,96,[.d (.str []),.d (.int .i64 0),.d (.int .i64 0),.d (.int .i64 0),.d (.int .i64 0),.d (.int .i64 0),.d (.int .i64 0),.d (.int .i64 0),.d (.int .i64 0),.d (.int .i64 0),.d (.int .i64 0)]⟩ .lf))) 167 ⟨.slice 228,1,24,[.sl 5 [] .full]⟩ (.nd (.nd (.nd (.nd .lf 169 ⟨.struct [(0,1,false),(1,1,false),(2,1,false),(3,1,false),(4,11,true),(15,11,true),(26,1,false),(27,1,false),(28,1,false),(29,1,false),(30,1,false),(31,1,false),(32,1,false)],33,384,[.d (.str []),.sl 11 [] .full,.sl 11 [] .full,.sl 1 [] .full,.d (.str []),.d (.int .i64 0),.d (.int .i64 0),.d (.int .i64 0),.d (.int .i64 0),.d (.int .i64 0),.d (.int .i64 0),.d (.int .i64 0),.d (.int .i64 0),.d (.int .i64 0),.d (.int .i64 0),.d (.str []),.d (.int .i64 0),.d (.int .i64 0),.d (.int .i64 0),.d (.int .i64 0),.d (.int .i64 0),.d (.int .i64 0),.d (.int .i64 0),.d (.int .i64 0),.d (.int .i64 0),.d (.int .i64 0),.d (.int .i64 0),.d (.int .i64 0),.d (.int .i64 0),.d (.int .i64 0),.sl 1 [] .full,.sl 5 [] .full,.sl 1 [] .full]⟩ .lf) 172 ⟨.slice 415,1,24,[.sl 5 [] .full]⟩ .lf) 173 ⟨.slice 341,1,24,[.sl 2 [] .full]⟩ (.nd (.nd .lf 175 ⟨.struct [(0,1,false),(1,1,false)],2,48,[.sl 5 [] .full,.sl 2 [] .full]⟩ .lf) 176 ⟨.slice 378,1,24,[.sl 5 [] .full]⟩ .lf)) 178 ⟨.struct [(0,2,true),(2,1,false),(3,1,false),(4,1,false),(5,1,false),(6,1,false),(7,1,false),(8,1,false),(9,1,false),(10,1,false),(11,1,false),(12,2,true),(14,1,false),(15,1,false)],16,280,[.sl 5 [] .full,.sl 2 [] .full,.d (.str []),.sl 1 [] .full,.sl 1 [] .full,.sl 1 [] .full,.d (.int .i64 0),.d (.int .i64 0),.d (.bool false),.sl 5 [] .full,.d (.int .i64 0),.d (.int .i64 0),.sl 5 [] .full,.d (.int .i64 0),.sl 1 [] .full,.sl 1 [] .full]⟩ (.nd (.nd (.nd .lf 179 ⟨.array 2 98,2,48,[.sl 1 [] .full,.sl 1 [] .full]⟩ .lf) 181 ⟨.struct [(0,2,true)],2,48,[.sl 1 [] .full,.sl 1 [] .full]⟩ .lf) 183 ⟨.struct [(0,1,false),(1,1,false)],2,16,[.d (.int .i64 0),.d (.int .i64 0)]⟩ (.nd (.nd .lf 185 ⟨.struct [(0,1,false),(1,1,false),(2,1,false),(3,1,false),(4,1,false)],5,24,[.d (.int .i64 0),.d (.bool false),.d (.bool false),.d (.bool false),.d (.int .i64 0)]⟩ .lf) 187 ⟨.struct [(0,1,false),(1,1,false),(2,1,false)],3,56,[.sl 1 [] .full,.sl 1 [] .full,.d (.int .i64 0)]⟩ .lf)))) 189 ⟨.struct [(0,1,false),(1,1,false)],2,32,[.d (.int .i64 0),.sl 1 [] .full]⟩ (.nd (.nd (.nd (.nd (.nd .lf 191 ⟨.struct [(0,2,true),(2,1,false),(3,1,false),(4,1,false),(5,1,false),(6,1,false),(7,1,false),(8,1,false),(9,3,true)],12,160,[.d (.int .i64 0),.sl 1 [] .full,.d (.int .i64 0),.d (.int .i64 0),.sl 1 [] .full,.d (.int .i64 0),.d (.int .i64 0),.d (.int .i64 0),.d (.int .i64 0),.sl 1 [] .full,.sl 1 [] .full,.d (.int .i64 0)]⟩ .lf) 193 ⟨.struct [(0,1,false),(1,1,false),(2,1,false),(3,1,false),(4,1,false),(5,1,false)],6,56,[.d (.str []),.d (.int .i64 0),.d (.int .i64 0),.d (.int .i64 0),.d (.int .i64 0),.d (.int .i64 0)]⟩ .lf) 195 ⟨.struct [(0,1,false),(1,1,false),(2,1,false),(3,1,false),(4,1,false),(5,1,false)],6,64,[.d (.int .i64 0),.d (.int .i64 0),.d (.int .i64 0),.d (.int .i64 0),.sl 1 [] .full,.d (.int .i64 0)]⟩ (.nd (.nd .lf 197 ⟨.struct [(0,16,true),(16,2,true),(18,1,false),(19,1,false),(20,2,true),(22,5,true),(27,1,false),(28,3,true),(31,1,false),(32,1,false),(33,12,true),(45,1,false),(46,6,true),(52,1,false),(53,1,false),(54,6,true)],60,816,[.sl 5 [] .full,.sl 2 [] .full,.d (.str []),.sl 1 [] .full,.sl 1 [] .full,.sl 1 [] .full,.d (.int .i64 0),.d (.int .i64 0),.d (.bool false),.sl 5 [] .full,.d (.int .i64 0),.d (.int .i64 0),.sl 5 [] .full,.d (.int .i64 0),.sl 1 [] .full,.sl 1 [] .full,.sl 1 [] .full,.sl 1 [] .full,.sl 1 [] .full,.d (.bool false),.d (.int .i64 0),.d (.int .i64 0),.d (.int .i64 0),.d (.bool false),.d (.bool false),.d (.bool false),.d (.int .i64 0),.d (.bool false),.sl 1 [] .full,.sl 1 [] .full,.d (.int .i64 0),.d (.int .i64 0),.d (.int .i64 0),.d (.int .i64 0),.sl 1 [] .full,.d (.int .i64 0),.d (.int .i64 0),.sl 1 [] .full,.d (.int .i64 0),.d (.int .i64 0),.d (.int .i64 0),.d (.int .i64 0),.sl 1 [] .full,.sl 1 [] .full,.d (.int .i64 0),.sl 1 [] .full,.d (.str []),.d (.int .i64 0),.d (.int .i64 0),.d (.int .i64 0),.d (.int .i64 0),.d (.int .i64 0),.sl 1 [] .full,.d (.bool false),.d (.int .i64 0),.d (.int .i64 0),.d (.int .i64 0),.d (.int .i64 0),.sl 1 [] .full,.d (.int .i64 0)]⟩ .lf) 199 ⟨.struct [(0,1,false),(1,1,false),(2,60,true)],62,856,[.sl 1 [] .full,.d (.str []),.sl 5 [] .full,.sl 2 [] .full,.d (.str []),.sl 1 [] .full,.sl 1 [] .full,.sl 1 [] .full,.d (.int .i64 0),.d (.int .i64 0),.d (.bool false),.sl 5 [] .full,.d (.int .i64 0),.d (.int .i64 0),.sl 5 [] .full,.d (.int .i64 0),.sl 1 [] .full,.sl 1 [] .full,.sl 1 [] .full,.sl 1 [] .full,.sl 1 [] .full,.d (.bool false),.d (.int .i64 0),.d (.int .i64 0),.d (.int .i64 0),.d (.bool false),.d (.bool false),.d (.bool false),.d (.int .i64 0),.d (.bool false),.sl 1 [] .full,.sl 1 [] .full,.d (.int .i64 0),.d (.int .i64 0),.d (.int .i64 0),.d (.int .i64 0),.sl 1 [] .full,.d (.int .i64 0),.d (.int .i64 0),.sl 1 [] .full,.d (.int .i64 0),.d (.int .i64 0),.d (.int .i64 0),.d (.int .i64 0),.sl 1 [] .full,.sl 1 [] .full,.d (.int .i64 0),.sl 1 [] .full,.d (.str []),.d (.int .i64 0),.d (.int .i64 0),.d (.int .i64 0),.d (.int .i64 0),.d (.int .i64 0),.sl 1 [] .full,.d (.bool false),.d (.int .i64 0),.d (.int .i64 0),.d (.int .i64 0),.d (.int .i64 0),.sl 1 [] .full,.d (.int .i64 0)]⟩ .lf)) 202 ⟨.slice 250,1,24,[.sl 17 [] .full]⟩ (.nd (.nd (.nd .lf 203 ⟨.slice 256,1,24,[.sl 8 [] .full]⟩ .lf) 204 ⟨.slice 261,1,24,[.sl 17 [] .full]⟩ .lf) 206 ⟨.struct [(0,1,false),(1,1,false),(2,1,false),(3,1,false),(4,1,false)],5,120,[.sl 11 [] .full,.sl 11 [] .full,.sl 17 [] .full,.sl 8 [] .full,.sl 17 [] .full]⟩ (.nd (.nd .lf 207 ⟨.slice 235,1,24,[.sl 9 [] .full]⟩ .lf) 209 ⟨.struct [(0,1,false),(1,5,true),(6,1,false),(7,1,false),(8,1,false),(9,1,false),(10,1,false)],11,240,[.d (.str []),.sl 11 [] .full,.sl 11 [] .full,.sl 17 [] .full,.sl 8 [] .full,.sl 17 [] .full,.sl 1 [] .full,.sl 1 [] .full,.sl 9 [] .full,.d (.int .i64 0),.sl 1 [] .full]⟩ .lf))) 217 ⟨.int .u64,1,8,[.d (.int .u64 0)]⟩ (.nd (.nd (.nd (.nd .lf 218 ⟨.array 24 5,24,24,[.d (.int .u8 0),.d (.int .u8 0),.d (.int .u8 0),.d (.int .u8 0),.d (.int .u8 0),.d (.int .u8 0),.d (.int .u8 0),.d (.int .u8 0),.d (.int .u8 0),.d (.int .u8 0),.d (.int .u8 0),.d (.int .u8 0),.d (.int .u8 0),.d (.int .u8 0),.d (.int .u8 0),.d (.int .u8 0),.d (.int .u8 0),.d (.int .u8 0),.d (.int .u8 0),.d (.int .u8 0),.d (.int .u8 0),.d (.int .u8 0),.d (.int .u8 0),.d (.int .u8 0)]⟩ .lf) 219 ⟨.int .u64,1,8,[.d (.int .u64 0)]⟩ .lf) 228 ⟨.struct [(0,1,false),(1,1,false),(2,1,false),(3,1,false),(4,1,false)],5,56,[.d (.int .i64 0),.d (.int .i64 0),.d (.int .i64 0),.d (.str []),.d (.str [])]⟩ (.nd (.nd .lf 235 ⟨.struct [(0,1,false),(1,1,false),(2,1,false),(3,1,false),(4,1,false),(5,1,false),(6,1,false),(7,2,true)],9,88,[.d (.str []),.d (.str []),.d (.int .i64 0),.d (.int .i64 0),.d (.int .i64 0),.d (.int .i64 0),.d (.int .i64 0),.d (.int .i64 0),.d (.int .i64 0)]⟩ .lf) 241 ⟨.ptr,1,8,[.nilp]⟩ .lf)) 245 ⟨.ptr,1,8,[.nilp]⟩ (.nd (.nd (.nd .lf 246 ⟨.ptr,1,8,[.nilp]⟩ .lf) 250 ⟨.struct [(0,1,false),(1,1,false),(2,1,false),(3,1,false),(4,11,true),(15,2,true)],17,168,[.d (.str []),.d (.int .i64 0),.d (.int .i64 0),.sl 11 [] .full,.d (.str []),.d (.int .i64 0),.d (.int .i64 0),.d (.int .i64 0),.d (.int .i64 0),.d (.int .i64 0),.d (.int .i64 0),.d (.int .i64 0),.d (.int .i64 0),.d (.int .i64 0),.d (.int .i64 0),.d (.int .i64 0),.d (.int .i64 0)]⟩ .lf) 256 ⟨.struct [(0,1,false),(1,1,false),(2,1,false),(3,1,false),(4,1,false),(5,1,false),(6,2,true)],8,88,[.d (.str []),.d (.int .i64 0),.d (.int .i64 0),.d (.int .i64 0),.sl 1 [] .full,.d (.int .i64 0),.d (.int .i64 0),.d (.int .i64 0)]⟩ (.nd (.nd .lf 261 ⟨.struct [(0,1,false),(1,1,false),(2,1,false),(3,1,false),(4,11,true),(15,2,true)],17,168,[.d (.str []),.d (.int .i64 0),.d (.int .i64 0),.sl 5 [] .full,.d (.str []),.d (.int .i64 0),.d (.int .i64 0),.d (.int .i64 0),.d (.int .i64 0),.d (.int .i64 0),.d (.int .i64 0),.d (.int .i64 0),.d (.int .i64 0),.d (.int .i64 0),.d (.int .i64 0),.d (.int .i64 0),.d (.int .i64 0)]⟩ .lf) 271 ⟨.slice 366,1,24,[.sl 6 [] .full]⟩ .lf)))))) 273 ⟨.struct [(0,1,false)],1,24,[.sl 6 [] .full]⟩ (.nd (.nd (.nd (.nd (.nd (.nd (.nd .lf 276 ⟨.int .i64,1,8,[.d (.int .i64 0)]⟩ .lf) 279 ⟨.ptr,1,8,[.nilp]⟩ (.nd .lf 284 ⟨.struct [(0,1,false),(1,1,false)],2,2,[.d (.int .u8 0),.d (.int .u8 0)]⟩ .lf)) 285 ⟨.array 16 284,32,32,[.d (.int .u8 0),.d (.int .u8 0),.d (.int .u8 0),.d (.int .u8 0),.d (.int .u8 0),.d (.int .u8 0),.d (.int .u8 0),.d (.int .u8 0),.d (.int .u8 0),.d (.int .u8 0),.d (.int .u8 0),.d (.int .u8 0),.d (.int .u8 0),.d (.int .u8 0),.d (.int .u8 0),.d (.int .u8 0),.d (.int .u8 0),.d (.int .u8 0),.d (.int .u8 0),.d (.int .u8 0),.d (.int .u8 0),.d (.int .u8 0),.d (.int .u8 0),.d (.int .u8 0),.d (.int .u8 0),.d (.int .u8 0),.d (.int .u8 0),.d (.int .u8 0),.d (.int .u8 0),.d (.int .u8 0),.d (.int .u8 0),.d (.int .u8 0)]⟩ (.nd (.nd .lf 286 ⟨.int .u32,1,4,[.d (.int .u32 0)]⟩ .lf) 290 ⟨.array 20 219,20,160,[.d (.int .u64 0),.d (.int .u64 0),.d (.int .u64 0),.d (.int .u64 0),.d (.int .u64 0),.d (.int .u64 0),.d (.int .u64 0),.d (.int .u64 0),.d (.int .u64 0),.d (.int .u64 0),.d (.int .u64 0),.d (.int .u64 0),.d (.int .u64 0),.d (.int .u64 0),.d (.int .u64 0),.d (.int .u64 0),.d (.int .u64 0),.d (.int .u64 0),.d (.int .u64 0),.d (.int .u64 0)]⟩ .lf)) 291 ⟨.array 65 5,65,65,[.d (.int .u8 0),.d (.int .u8 0),.d (.int .u8 0),.d (.int .u8 0),.d (.int .u8 0),.d (.int .u8 0),.d (.int .u8 0),.d (.int .u8 0),.d (.int .u8 0),.d (.int .u8 0),.d (.int .u8 0),.d (.int .u8 0),.d (.int .u8 0),.d (.int .u8 0),.d (.int .u8 0),.d (.int .u8 0),.d (.int .u8 0),.d (.int .u8 0),.d (.int .u8 0),.d (.int .u8 0),.d (.int .u8 0),.d (.int .u8 0),.d (.int .u8 0),.d (.int .u8 0),.d (.int .u8 0),.d (.int .u8 0),.d (.int .u8 0),.d (.int .u8 0),.d (.int .u8 0),.d (.int .u8 0),.d (.int .u8 0),.d (.int .u8 0),.d (.int .u8 0),.d (.int .u8 0),.d (.int .u8 0),.d (.int .u8 0),.d (.int .u8 0),.d (.int .u8 0),.d (.int .u8 0),.d (.int .u8 0),.d (.int .u8 0),.d (.int .u8 0),.d (.int .u8 0),.d (.int .u8 0),.d (.int .u8 0),.d (.int .u8 0),.d (.int .u8 0),.d (.int .u8 0),.d (.int .u8 0),.d (.int .u8 0),.d (.int .u8 0),.d (.int .u8 0),.d (.int .u8 0),.d (.int .u8 0),.d (.int .u8 0),.d (.int .u8 0),.d (.int .u8 0),.d (.int .u8 0),.d (.int .u8 0),.d (.int .u8 0),.d (.int .u8 0),.d (.int .u8 0),.d (.int .u8 0),.d (.int .u8 0),.d (.int .u8 0)]⟩ (.nd (.nd (.nd .lf 306 ⟨.ptr,1,8,[.nilp]⟩ .lf) 308 ⟨.struct [(0,1,false),(1,1,false),(2,1,false),(3,1,false),(4,1,false),(5,1,false),(6,1,false),(7,1,false),(8,1,false),(9,1,false),(10,1,false),(11,1,false)],12,184,[.d (.int .i64 0),.d (.str []),.d (.str []),.d (.str []),.d (.str []),.d (.str []),.d (.str []),.d (.str []),.d (.str []),.d (.str []),.d (.str []),.d (.str [])]⟩ .lf) 310 ⟨.struct [(0,12,true),(12,1,false),(13,1,false),(14,1,false),(15,1,false),(16,1,false),(17,1,false),(18,1,false),(19,1,false),(20,1,false),(21,1,false),(22,1,false),(23,1,false),(24,2,true),(26,12,true)],38,640,[.d (.str []),.d (.str []),.d (.str []),.d (.str []),.d (.str []),.d (.str []),.d (.int .i64 0),.sl 1 [] .full,.d (.bool false),.sl 5 [] .full,.d (.int .i64 0),.sl 1 [] .full,.nilp,.d (.int .i64 0),.sl 1 [] .full,.sl 1 [] .full,.sl 1 [] .full,.d (.int .i64 0),.d (.int .i64 0),.sl 1 [] .full,.d (.str []),.sl 5 [] .full,.sl 1 [] .full,.sl 1 [] .full,.sl 5 [] .full,.sl 2 [] .full,.d (.int .i64 0),.d (.str []),.d (.str []),.d (.str []),.d (.str []),.d (.str []),.d (.str []),.d (.str []),.d (.str []),.d (.str []),.d (.str []),.d (.str [])]⟩ (.nd (.nd .lf 311 ⟨.slice 147,1,24,[.sl 1 [] .full]⟩ .lf) 341 ⟨.struct [(0,1,false),(1,1,false)],2,48,[.sl 1 [] .full,.sl 5 [] .full]⟩ .lf))) 346 ⟨.struct [(0,1,false),(1,1,false),(2,1,false),(3,1,false),(4,1,false),(5,1,false),(6,1,false),(7,1,false),(8,1,false),(9,1,false),(10,1,false),(11,1,false),(12,1,false)],13,232,[.sl 1 [] .full,.d (.str []),.d (.str []),.d (.str []),.sl 1 [] .full,.sl 1 [] .full,.sl 1 [] .full,.sl 1 [] .full,.d (.bool false),.d (.bool false),.sl 9 [] .full,.d (.int .i64 0),.sl 1 [] .full]⟩ (.nd (.nd (.nd (.nd .lf 349 ⟨.slice 693,1,24,[.sl 3 [] .full]⟩ .lf) 357 ⟨.ptr,1,8,[.nilp]⟩ .lf) 359 ⟨.struct [(0,1,false),(1,1,false)],2,24,[.d (.str []),.d (.int .i64 0)]⟩ (.nd (.nd .lf 361 ⟨.struct [(0,1,false),(1,1,false),(2,2,true),(4,1,false)],5,56,[.d (.str []),.d (.int .i64 0),.d (.str []),.d (.int .i64 0),.d (.bool false)]⟩ .lf) 362 ⟨.slice 364,1,24,[.sl 4 [] .full]⟩ .lf)) 364 ⟨.struct [(0,1,false),(1,1,false),(2,1,false),(3,1,false)],4,48,[.d (.int .i64 0),.d (.int .i64 0),.d (.int .i64 0),.sl 4 [] .full]⟩ (.nd (.nd (.nd .lf 366 ⟨.struct [(0,1,false),(1,1,false),(2,4,true)],6,64,[.d (.int .i64 0),.d (.bool false),.d (.int .i64 0),.d (.int .i64 0),.d (.int .i64 0),.sl 4 [] .full]⟩ .lf) 372 ⟨.struct [(0,1,false),(1,1,false),(2,1,false)],3,48,[.d (.str []),.d (.str []),.ifc true]⟩ .lf) 378 ⟨.struct [(0,1,false),(1,1,false),(2,1,false),(3,1,false),(4,1,false)],5,40,[.d (.int .i64 0),.d (.int .i64 0),.d (.int .i64 0),.d (.int .i64 0),.d (.int .i64 0)]⟩ (.nd (.nd .lf 393 ⟨.struct [(0,1,false),(1,1,false),(2,1,false),(3,1,false),(4,1,false),(5,1,false),(6,1,false)],7,72,[.d (.int .i64 0),.d (.int .i64 0),.d (.int .i64 0),.d (.int .i64 0),.d (.int .i64 0),.d (.int .i64 0),.sl 1 [] .full]⟩ .lf) 395 ⟨.slice 393,1,24,[.sl 7 [] .full]⟩ .lf)))) 399 ⟨.slice 574,1,24,[.sl 2 [] .full]⟩ (.nd (.nd (.nd (.nd (.nd .lf 401 ⟨.struct [(0,1,false),(1,1,false),(2,1,false),(3,2,true)],5,72,[.d (.int .i64 0),.sl 2 [] .full,.sl 1 [] .full,.d (.int .i64 0),.d (.int .i64 0)]⟩ .lf) 407 ⟨.slice 437,1,24,[.sl 3 [] .full]⟩ .lf) 413 ⟨.struct [(0,1,false),(1,1,false)],2,16,[.d (.int .i64 0),.d (.int .i64 0)]⟩ (.nd (.nd .lf 415 ⟨.struct [(0,1,false),(1,1,false),(2,1,false),(3,2,true)],5,56,[.d (.int .i64 0),.d (.int .i64 0),.sl 1 [] .full,.d (.int .i64 0),.d (.int .i64 0)]⟩ .lf) 420 ⟨.struct [(0,1,false),(1,1,false),(2,1,false),(3,2,true)],5,72,[.d (.int .i64 0),.d (.int .i64 0),.sl 1 [] .full,.sl 5 [] .full,.d (.int .i64 0)]⟩ .lf)) 437 ⟨.struct [(0,1,false),(1,1,false),(2,1,false)],3,56,[.d (.int .i64 0),.sl 1 [] .full,.sl 3 [] .full]⟩ (.nd (.nd (.nd .lf 447 ⟨.ptr,1,8,[.nilp]⟩ .lf) 449 ⟨.struct [(0,1,false),(1,1,false),(2,1,false)],3,24,[.d (.int .i64 0),.d (.int .i64 0),.d (.int .i64 0)]⟩ .lf) 450 ⟨.array 15 449,45,360,[.d (.int .i64 0),.d (.int .i64 0),.d (.int .i64 0),.d (.int .i64 0),.d (.int .i64 0),.d (.int .i64 0),.d (.int .i64 0),.d (.int .i64 0),.d (.int .i64 0),.d (.int .i64 0),.d (.int .i64 0),.d (.int .i64 0),.d (.int .i64 0),.d (.int .i64 0),.d (.int .i64 0),.d (.int .i64 0),.d (.int .i64 0),.d (.int .i64 0),.d (.int .i64 0),.d (.int .i64 0),.d (.int .i64 0),.d (.int .i64 0),.d (.int .i64 0),.d (.int .i64 0),.d (.int .i64 0),.d (.int .i64 0),.d (.int .i64 0),.d (.int .i64 0),.d (.int .i64 0),.d (.int .i64 0),.d (.int .i64 0),.d (.int .i64 0),.d (.int .i64 0),.d (.int .i64 0),.d (.int .i64 0),.d (.int .i64 0),.d (.int .i64 0),.d (.int .i64 0),.d (.int .i64 0),.d (.int .i64 0),.d (.int .i64 0),.d (.int .i64 0),.d (.int .i64 0),.d (.int .i64 0),.d (.int .i64 0)]⟩ (.nd (.nd .lf 452 ⟨.struct [(0,45,true),(45,1,false)],46,384,[.d (.int .i64 0),.d (.int .i64 0),.d (.int .i64 0),.d (.int .i64 0),.d (.int .i64 0),.d (.int .i64 0),.d (.int .i64 0),.d (.int .i64 0),.d (.int .i64 0),.d (.int .i64 0),.d (.int .i64 0),.d (.int .i64 0),.d (.int .i64 0),.d (.int .i64 0),.d (.int .i64 0),.d (.int .i64 0),.d (.int .i64 0),.d (.int .i64 0),.d (.int .i64 0),.d (.int .i64 0),.d (.int .i64 0),.d (.int .i64 0),.d (.int .i64 0),.d (.int .i64 0),.d (.int .i64 0),.d (.int .i64 0),.d (.int .i64 0),.d (.int .i64 0),.d (.int .i64 0),.d (.int .i64 0),.d (.int .i64 0),.d (.int .i64 0),.d (.int .i64 0),.d (.int .i64 0),.d (.int .i64 0),.d (.int .i64 0),.d (.int .i64 0),.d (.int .i64 0),.d (.int .i64 0),.d (.int .i64 0),.d (.int .i64 0),.d (.int .i64 0),.d (.int .i64 0),.d (.int .i64 0),.d (.int .i64 0),.sl 1 [] .full]⟩ .lf) 460 ⟨.ptr,1,8,[.nilp]⟩ .lf))) 462 ⟨.struct [(0,13,true),(13,60,true),(73,2,true),(75,1,false),(76,1,false),(77,1,false),(78,3,true),(81,16,true),(97,1,false),(98,1,false)],99,1488,[.sl 1 [] .full,.d (.str []),.d (.str []),.d (.str []),.sl 1 [] .full,.sl 1 [] .full,.sl 1 [] .full,.sl 1 [] .full,.d (.bool false),.d (.bool false),.sl 9 [] .full,.d (.int .i64 0),.sl 1 [] .full,.sl 5 [] .full,.sl 2 [] .full,.d (.str []),.sl 1 [] .full,.sl 1 [] .full,.sl 1 [] .full,.d (.int .i64 0),.d (.int .i64 0),.d (.bool false),.sl 5 [] .full,.d (.int .i64 0),.d (.int .i64 0),.sl 5 [] .full,.d (.int .i64 0),.sl 1 [] .full,.sl 1 [] .full,.sl 1 [] .full,.sl 1 [] .full,.sl 1 [] .full,.d (.bool false),.d (.int .i64 0),.d (.int .i64 0),.d (.int .i64 0),.d (.bool false),.d (.bool false),.d (.bool false),.d (.int .i64 0),.d (.bool false),.sl 1 [] .full,.sl 1 [] .full,.d (.int .i64 0),.d (.int .i64 0),.d (.int .i64 0),.d (.int .i64 0),.sl 1 [] .full,.d (.int .i64 0),.d (.int .i64 0),.sl 1 [] .full,.d (.int .i64 0),.d (.int .i64 0),.d (.int .i64 0),.d (.int .i64 0),.sl 1 [] .full,.sl 1 [] .full,.d (.int .i64 0),.sl 1 [] .full,.d (.str []),.d (.int .i64 0),.d (.int .i64 0),.d (.int .i64 0),.d (.int .i64 0),.d (.int .i64 0),.sl 1 [] .full,.d (.bool false),.d (.int .i64 0),.d (.int .i64 0),.d (.int .i64 0),.d (.int .i64 0),.sl 1 [] .full,.d (.int .i64 0),.sl 1 [] .full,.sl 3 [] .full,.sl 3 [] .full,.sl 1 [] .full,.d (.bool false),.sl 1 [] .full,.sl 1 [] .full,.d (.int .i64 0),.d (.str []),.sl 1 [] .full,.sl 1 [] .full,.d (.int .i64 0),.sl 1 [] .full,.sl 1 [] .full,.sl 1 [] .full,.d (.bool false),.d (.int .i64 0),.d (.int .i64 0),.sl 1 [] .full,.sl 1 [] .full,.d (.bool false),.sl 1 [] .full,.d (.int .i64 0),.d (.int .i64 0),.d (.int .i64 0),.d (.bool false)]⟩ (.nd (.nd (.nd (.nd .lf 463 ⟨.ptr,1,8,[.nilp]⟩ .lf) 466 ⟨.slice 465,1,24,[.sl 1 [] .full]⟩ .lf) 475 ⟨.ptr,1,8,[.nilp]⟩ (.nd (.nd .lf 477 ⟨.struct [(0,1,false)],1,16,[.d (.str [])]⟩ .lf) 478 ⟨.array 32 5,32,32,[.d (.int .u8 0),.d (.int .u8 0),.d (.int .u8 0),.d (.int .u8 0),.d (.int .u8 0),.d (.int .u8 0),.d (.int .u8 0),.d (.int .u8 0),.d (.int .u8 0),.d (.int .u8 0),.d (.int .u8 0),.d (.int .u8 0),.d (.int .u8 0),.d (.int .u8 0),.d (.int .u8 0),.d (.int .u8 0),.d (.int .u8 0),.d (.int .u8 0),.d (.int .u8 0),.d (.int .u8 0),.d (.int .u8 0),.d (.int .u8 0),.d (.int .u8 0),.d (.int .u8 0),.d (.int .u8 0),.d (.int .u8 0),.d (.int .u8 0),.d (.int .u8 0),.d (.int .u8 0),.d (.int .u8 0),.d (.int .u8 0),.d (.int .u8 0)]⟩ .lf)) 479 ⟨.array 64 5,64,64,[.d (.int .u8 0),.d (.int .u8 0),.d (.int .u8 0),.d (.int .u8 0),.d (.int .u8 0),.d (.int .u8 0),.d (.int .u8 0),.d (.int .u8 0),.d (.int .u8 0),.d (.int .u8 0),.d (.int .u8 0),.d (.int .u8 0),.d (.int .u8 0),.d (.int .u8 0),.d (.int .u8 0),.d (.int .u8 0),.d (.int .u8 0),.d (.int .u8 0),.d (.int .u8 0),.d (.int .u8 0),.d (.int .u8 0),.d (.int .u8 0),.d (.int .u8 0),.d (.int .u8 0),.d (.int .u8 0),.d (.int .u8 0),.d (.int .u8 0),.d (.int .u8 0),.d (.int .u8 0),.d (.int .u8 0),.d (.int .u8 0),.d (.int .u8 0),.d (.int .u8 0),.d (.int .u8 0),.d (.int .u8 0),.d (.int .u8 0),.d (.int .u8 0),.d (.int .u8 0),.d (.int .u8 0),.d (.int .u8 0),.d (.int .u8 0),.d (.int .u8 0),.d (.int .u8 0),.d (.int .u8 0),.d (.int .u8 0),.d (.int .u8 0),.d (.int .u8 0),.d (.int .u8 0),.d (.int .u8 0),.d (.int .u8 0),.d (.int .u8 0),.d (.int .u8 0),.d (.int .u8 0),.d (.int .u8 0),.d (.int .u8 0),.d (.int .u8 0),.d (.int .u8 0),.d (.int .u8 0),.d (.int .u8 0),.d (.int .u8 0),.d (.int .u8 0),.d (.int .u8 0),.d (.int .u8 0),.d (.int .u8 0)]⟩ (.nd (.nd (.nd .lf 487 ⟨.array 3 3,3,24,[.d (.int .i64 0),.d (.int .i64 0),.d (.int .i64 0)]⟩ .lf) 507 ⟨.array 18 3,18,144,[.d (.int .i64 0),.d (.int .i64 0),.d (.int .i64 0),.d (.int .i64 0),.d (.int .i64 0),.d (.int .i64 0),.d (.int .i64 0),.d (.int .i64 0),.d (.int .i64 0),.d (.int .i64 0),.d (.int .i64 0),.d (.int .i64 0),.d (.int .i64 0),.d (.int .i64 0),.d (.int .i64 0),.d (.int .i64 0),.d (.int .i64 0),.d (.int .i64 0)]⟩ .lf) 509 ⟨.array 2 3,2,16,[.d (.int .i64 0),.d (.int .i64 0)]⟩ (.nd (.nd .lf 513 ⟨.ptr,1,8,[.nilp]⟩ .lf) 514 ⟨.slice 513,1,24,[.sl 1 [] .full]⟩ .lf))))) 520 ⟨.struct [(0,1,false),(1,1,false),(2,1,false)],3,56,[.d (.int .i64 0),.sl 11 [] .full,.sl 1 [] .full]⟩ (.nd (.nd (.nd (.nd (.nd (.nd .lf 521 ⟨.ptr,1,8,[.nilp]⟩ .lf) 531 ⟨.array 4 509,8,64,[.d (.int .i64 0),.d (.int .i64 0),.d (.int .i64 0),.d (.int .i64 0),.d (.int .i64 0),.d (.int .i64 0),.d (.int .i64 0),.d (.int .i64 0)]⟩ .lf) 539 ⟨.other,1,16,[.ifc true]⟩ (.nd (.nd .lf 540 ⟨.other,1,16,[.ifc true]⟩ .lf) 559 ⟨.struct [(0,5,true),(5,16,true),(21,1,false),(22,1,false),(23,5,true),(28,11,true),(39,1,false),(40,12,true),(52,1,false),(53,1,false),(54,1,false)],55,816,[.sl 11 [] .full,.sl 11 [] .full,.sl 17 [] .full,.sl 8 [] .full,.sl 17 [] .full,.d (.str []),.sl 1 [] .full,.sl 1 [] .full,.d (.int .i64 0),.sl 1 [] .full,.sl 1 [] .full,.sl 1 [] .full,.d (.bool false),.d (.int .i64 0),.d (.int .i64 0),.sl 1 [] .full,.sl 1 [] .full,.d (.bool false),.sl 1 [] .full,.d (.int .i64 0),.d (.int .i64 0),.d (.int .i64 0),.d (.bool false),.d (.int .i64 0),.sl 2 [] .full,.sl 1 [] .full,.d (.int .i64 0),.d (.int .i64 0),.d (.str []),.d (.int .i64 0),.d (.int .i64 0),.d (.int .i64 0),.d (.int .i64 0),.d (.int .i64 0),.d (.int .i64 0),.d (.int .i64 0),.d (.int .i64 0),.d (.int .i64 0),.d (.int .i64 0),.sl 5 [] .full,.d (.int .i64 0),.d (.str []),.d (.str []),.d (.str []),.d (.str []),.d (.str []),.d (.str []),.d (.str []),.d (.str []),.d (.str []),.d (.str []),.d (.str []),.d (.int .i64 0),.sl 11 [] .full,.d (.int .i64 0)]⟩ .lf)) 574 ⟨.struct [(0,1,false),(1,1,false)],2,32,[.d (.int .i64 0),.sl 1 [] .full]⟩ (.nd (.nd (.nd .lf 582 ⟨.slice 286,1,24,[.sl 1 [] .full]⟩ .lf) 585 ⟨.fn,1,8,[.nilf]⟩ .lf) 603 ⟨.struct [(0,1,false),(1,1,false),(2,1,false),(3,1,false)],4,48,[.sl 1 [] .full,.d (.int .i64 0),.d (.bool false),.d (.int .i64 0)]⟩ (.nd (.nd .lf 625 ⟨.ptr,1,8,[.nilp]⟩ .lf) 629 ⟨.struct [(0,1,false),(1,1,false)],2,32,[.sl 1 [] .full,.d (.int .i64 0)]⟩ .lf))) 635 ⟨.struct [],0,0,[]⟩ (.nd (.nd (.nd (.nd .lf 637 ⟨.struct [(0,1,false)],1,8,[.d (.int .i64 0)]⟩ .lf) 660 ⟨.array 64 286,64,256,[.d (.int .u32 0),.d (.int .u32 0),.d (.int .u32 0),.d (.int .u32 0),.d (.int .u32 0),.d (.int .u32 0),.d (.int .u32 0),.d (.int .u32 0),.d (.int .u32 0),.d (.int .u32 0),.d (.int .u32 0),.d (.int .u32 0),.d (.int .u32 0),.d (.int .u32 0),.d (.int .u32 0),.d (.int .u32 0),.d (.int .u32 0),.d (.int .u32 0),.d (.int .u32 0),.d (.int .u32 0),.d (.int .u32 0),.d (.int .u32 0),.d (.int .u32 0),.d (.int .u32 0),.d (.int .u32 0),.d (.int .u32 0),.d (.int .u32 0),.d (.int .u32 0),.d (.int .u32 0),.d (.int .u32 0),.d (.int .u32 0),.d (.int .u32 0),.d (.int .u32 0),.d (.int .u32 0),.d (.int .u32 0),.d (.int .u32 0),.d (.int .u32 0),.d (.int .u32 0),.d (.int .u32 0),.d (.int .u32 0),.d (.int .u32 0),.d (.int .u32 0),.d (.int .u32 0),.d (.int .u32 0),.d (.int .u32 0),.d (.int .u32 0),.d (.int .u32 0),.d (.int .u32 0),.d (.int .u32 0),.d (.int .u32 0),.d (.int .u32 0),.d (.int .u32 0),.d (.int .u32 0),.d (.int .u32 0),.d (.int .u32 0),.d (.int .u32 0),.d (.int .u32 0),.d (.int .u32 0),.d (.int .u32 0),.d (.int .u32 0),.d (.int .u32 0),.d (.int .u32 0),.d (.int .u32 0),.d (.int .u32 0)]⟩ .lf) 662 ⟨.array 8 286,8,32,[.d (.int .u32 0),.d (.int .u32 0),.d (.int .u32 0),.d (.int .u32 0),.d (.int .u32 0),.d (.int .u32 0),.d (.int .u32 0),.d (.int .u32 0)]⟩ (.nd (.nd .lf 665 ⟨.array 12 3,12,96,[.d (.int .i64 0),.d (.int .i64 0),.d (.int .i64 0),.d (.int .i64 0),.d (.int .i64 0),.d (.int .i64 0),.d (.int .i64 0),.d (.int .i64 0),.d (.int .i64 0),.d (.int .i64 0),.d (.int .i64 0),.d (.int .i64 0)]⟩ .lf) 671 ⟨.struct [(0,1,false),(1,1,false)],2,16,[.d (.int .i64 0),.d (.int .i64 0)]⟩ .lf)) 672 ⟨.slice 671,1,24,[.sl 2 [] .full]⟩ (.nd (.nd (.nd .lf 675 ⟨.ptr,1,8,[.nilp]⟩ .lf) 680 ⟨.array 2 5,2,2,[.d (.int .u8 0),.d (.int .u8 0)]⟩ .lf) 681 ⟨.array 7 680,14,14,[.d (.int .u8 0),.d (.int .u8 0),.d (.int .u8 0),.d (.int .u8 0),.d (.int .u8 0),.d (.int .u8 0),.d (.int .u8 0),.d (.int .u8 0),.d (.int .u8 0),.d (.int .u8 0),.d (.int .u8 0),.d (.int .u8 0),.d (.int .u8 0),.d (.int .u8 0)]⟩ (.nd (.nd .lf 693 ⟨.struct [(0,1,false),(1,1,false),(2,1,false)],3,56,[.sl 1 [] .full,.sl 1 [] .full,.d (.bool false)]⟩ .lf) 714 ⟨.struct [(0,1,false),(1,1,false),(2,1,false)],3,24,[.d (.int .i64 0),.d (.int .i64 0),.nilp]⟩ .lf)))) 715 ⟨.slice 714,1,24,[.sl 3 [] .full]⟩ (.nd (.nd (.nd (.nd (.nd .lf 726 ⟨.struct [(0,3,true),(3,1,false)],4,80,[.sl 1 [] .full,.sl 1 [] .full,.d (.int .i64 0),.sl 1 [] .full]⟩ .lf) 737 ⟨.struct [(0,1,false),(1,1,false),(2,1,false),(3,1,false)],4,32,[.d (.int .i64 0),.d (.int .i64 0),.d (.int .i64 0),.d (.bool false)]⟩ .lf) 738 ⟨.slice 737,1,24,[.sl 4 [] .full]⟩ (.nd (.nd .lf 755 ⟨.ptr,1,8,[.nilp]⟩ .lf) 761 ⟨.ptr,1,8,[.nilp]⟩ .lf)) 763 ⟨.struct [(0,60,true),(60,5,true),(65,1,false),(66,1,false),(67,1,false),(68,1,false),(69,1,false)],70,936,[.sl 5 [] .full,.sl 2 [] .full,.d (.str []),.sl 1 [] .full,.sl 1 [] .full,.sl 1 [] .full,.d (.int .i64 0),.d (.int .i64 0),.d (.bool false),.sl 5 [] .full,.d (.int .i64 0),.d (.int .i64 0),.sl 5 [] .full,.d (.int .i64 0),.sl 1 [] .full,.sl 1 [] .full,.sl 1 [] .full,.sl 1 [] .full,.sl 1 [] .full,.d (.bool false),.d (.int .i64 0),.d (.int .i64 0),.d (.int .i64 0),.d (.bool false),.d (.bool false),.d (.bool false),.d (.int .i64 0),.d (.bool false),.sl 1 [] .full,.sl 1 [] .full,.d (.int .i64 0),.d (.int .i64 0),.d (.int .i64 0),.d (.int .i64 0),.sl 1 [] .full,.d (.int .i64 0),.d (.int .i64 0),.sl 1 [] .full,.d (.int .i64 0),.d (.int .i64 0),.d (.int .i64 0),.d (.int .i64 0),.sl 1 [] .full,.sl 1 [] .full,.d (.int .i64 0),.sl 1 [] .full,.d (.str []),.d (.int .i64 0),.d (.int .i64 0),.d (.int .i64 0),.d (.int .i64 0),.d (.int .i64 0),.sl 1 [] .full,.d (.bool false),.d (.int .i64 0),.d (.int .i64 0),.d (.int .i64 0),.d (.int .i64 0),.sl 1 [] .full,.d (.int .i64 0),.d (.int .i64 0),.d (.int .i64 0),.sl 1 [] .full,.sl 5 [] .full,.d (.int .i64 0),.d (.int .i64 0),.d (.int .i64 0),.d (.bool false),.d (.bool false),.sl 1 [] .full]⟩ (.nd (.nd (.nd .lf 765 ⟨.ptr,1,8,[.nilp]⟩ .lf) 767 ⟨.array 16 5,16,16,[.d (.int .u8 0),.d (.int .u8 0),.d (.int .u8 0),.d (.int .u8 0),.d (.int .u8 0),.d (.int .u8 0),.d (.int .u8 0),.d (.int .u8 0),.d (.int .u8 0),.d (.int .u8 0),.d (.int .u8 0),.d (.int .u8 0),.d (.int .u8 0),.d (.int .u8 0),.d (.int .u8 0),.d (.int .u8 0)]⟩ .lf) 768 ⟨.array 16 5,16,16,[.d (.int .u8 0),.d (.int .u8 0),.d (.int .u8 0),.d (.int .u8 0),.d (.int .u8 0),.d (.int .u8 0),.d (.int .u8 0),.d (.int .u8 0),.d (.int .u8 0),.d (.int .u8 0),.d (.int .u8 0),.d (.int .u8 0),.d (.int .u8 0),.d (.int .u8 0),.d (.int .u8 0),.d (.int .u8 0)]⟩ (.nd (.nd .lf 775 ⟨.ptr,1,8,[.nilp]⟩ .lf) 779 ⟨.array 4 5,4,4,[.d (.int .u8 0),.d (.int .u8 0),.d (.int .u8 0),.d (.int .u8 0)]⟩ .lf))) 787 ⟨.ptr,1,8,[.nilp]⟩ (.nd (.nd (.nd (.nd .lf 789 ⟨.struct [(0,1,false),(1,1,false)],2,32,[.d (.int .i64 0),.sl 1 [] .full]⟩ .lf) 799 ⟨.ptr,1,8,[.nilp]⟩ .lf) 801 ⟨.struct [(0,1,false),(1,1,false),(2,1,false)],3,40,[.sl 1 [] .full,.d (.int .i64 0),.d (.bool false)]⟩ (.nd (.nd .lf 846 ⟨.slice 871,1,24,[.sl 3 [] .full]⟩ .lf) 860 ⟨.array 4 859,8,64,[.d (.int .i64 0),.d (.int .i64 0),.d (.int .i64 0),.d (.int .i64 0),.d (.int .i64 0),.d (.int .i64 0),.d (.int .i64 0),.d (.int .i64 0)]⟩ .lf)) 864 ⟨.fn,1,8,[.nilf]⟩ (.nd (.nd (.nd .lf 865 ⟨.array 4 864,4,32,[.nilf,.nilf,.nilf,.nilf]⟩ .lf) 867 ⟨.ptr,1,8,[.nilp]⟩ .lf) 871 ⟨.struct [(0,1,false),(1,1,false),(2,1,false)],3,40,[.d (.int .i64 0),.d (.int .i64 0),.sl 1 [] .full]⟩ (.nd (.nd .lf 882 ⟨.array 0 16,0,0,[]⟩ .lf) 897 ⟨.array 5 864,5,40,[.nilf,.nilf,.nilf,.nilf,.nilf]⟩ .lf)))))))
theorem hT:TOk Tryz.prog T:=⟨by kernel_rfl⟩
theorem mixed:Tryz.prog.follows .mixedOrders=true:=by kernel_rfl
structure Box (p:Prop):Prop where
 out:p
theorem ww {g n:Prop} (k:n) (h:Box n→g:=by intro hk;(repeat (first | refine wk hT rfl rfl ?_ | refine wd hT rfl rfl rfl ?_ | refine wz hT rfl ?_ | refine qMb ?_ | refine qHm ?_ | refine wh hT rfl rfl rfl rfl ?_ | refine wg hT rfl rfl rfl rfl rfl ?_ | refine qAf ?_ | refine qAc ?_ | refine wx mixed ?_ | refine qGv ?_ | refine qDy ?_ | refine qBr ?_ | refine vAy ?_));exact hk.out):g:=h ⟨k⟩
theorem wwn {g n:Prop} (k:n) (h:Box n→g:=by intro hk;(repeat (first | refine wk hT rfl rfl ?_ | refine wd hT rfl rfl rfl ?_ | refine wz hT rfl ?_ | refine qMb ?_ | refine qHm ?_ | refine wh hT rfl rfl rfl rfl ?_ | refine wg hT rfl rfl rfl rfl rfl ?_ | refine qAf ?_ | refine qAc ?_ | refine qGv ?_ | refine qDy ?_ | refine qBr ?_ | refine vAy ?_));exact hk.out):g:=h ⟨k⟩
theorem wwg {g n:Prop} (k:n) (h:Box n→g:=by intro hk;(repeat (first | refine vDn hT rfl rfl rfl rfl (by first | exact List.mem_cons_self | exact sm) rfl ?_ | refine vDm hT (fun _=>rfl) rfl rfl (by first | exact True.intro | omega | exact sd) ?_ | refine vAw hT rfl rfl rfl (by first | exact List.mem_cons_self | exact sm) rfl ?_ | refine qMb ?_));exact hk.out):g:=h ⟨k⟩
theorem wws {g n:Prop} (k:n) (h:Box n→g:=by intro hk;(repeat (first | refine wk hT rfl rfl ?_ | refine wd hT rfl rfl rfl ?_ | refine wz hT rfl ?_ | refine qMb ?_ | refine qHm ?_ | refine wh hT rfl rfl rfl rfl ?_ | refine wg hT rfl rfl rfl rfl rfl ?_));exact hk.out):g:=h ⟨k⟩
theorem wwe {g n:Prop} (k:n) (h:Box n→g:=by intro hk;(repeat (first | refine qBr ?_ | refine qDy ?_));exact hk.out):g:=h ⟨k⟩
theorem wwr {g:Prop} (h:g:=by (first | exact rx ⟨rfl,rfl⟩ | exact rxN ⟨rfl,rfl⟩ | (refine rq ⟨rfl,rfl⟩ rfl ?_;repeat (first | exact trivial | exact AV.le.refl _ | exact AV.le.dat | exact AV.le.nils | exact AV.le.nilsf | exact AV.le.any _ | exact ObLe.refl _ | exact ⟨rfl,rfl⟩ | refine AV.le.tup ?_ | refine AV.le.agg ?_ | exact li | exact lb | exact ls | exact lk | exact ld | exact lz | refine ⟨?_,?_⟩)) | (refine rqN ⟨rfl,rfl⟩ rfl ?_;repeat (first | exact trivial | exact AV.le.refl _ | exact AV.le.dat | exact AV.le.nils | exact AV.le.nilsf | exact AV.le.any _ | exact ObLe.refl _ | exact ⟨rfl,rfl⟩ | refine AV.le.tup ?_ | refine AV.le.agg ?_ | exact li | exact lb | exact ls | exact lk | exact ld | exact lz | refine ⟨?_,?_⟩)))):g:=h
theorem wwc {A g n:Prop} (S:A) (k:n) (h:A→Box n→g:=by intro S hk;(first | refine qAd (qCf rfl rfl (S) rfl rfl rfl) rfl ?_ | refine qCb (qCf rfl rfl (S) rfl rfl rfl) rfl rfl ?_ | refine qAd (qTb rfl rfl (S) rfl (by repeat (first | exact trivial | exact AV.le.refl _ | exact AV.le.dat | exact AV.le.nils | exact AV.le.nilsf | exact AV.le.any _ | exact ObLe.refl _ | exact ⟨rfl,rfl⟩ | refine AV.le.tup ?_ | refine AV.le.agg ?_ | exact li | exact lb | exact ls | exact lk | exact ld | exact lz | refine ⟨?_,?_⟩)) rfl rfl) rfl ?_ | refine qCb (qTb rfl rfl (S) rfl (by repeat (first | exact trivial | exact AV.le.refl _ | exact AV.le.dat | exact AV.le.nils | exact AV.le.nilsf | exact AV.le.any _ | exact ObLe.refl _ | exact ⟨rfl,rfl⟩ | refine AV.le.tup ?_ | refine AV.le.agg ?_ | exact li | exact lb | exact ls | exact lk | exact ld | exact lz | refine ⟨?_,?_⟩)) rfl rfl) rfl rfl ?_);exact hk.out):g:=h S ⟨k⟩
theorem wwx {A g n:Prop} (S:A) (k:n) (h:A→Box n→g:=by intro S hk;(refine qUv (callX0 rfl rfl (S) rfl (by repeat (first | exact trivial | exact AV.le.refl _ | exact AV.le.dat | exact AV.le.nils | exact AV.le.nilsf | exact AV.le.any _ | exact ObLe.refl _ | exact ⟨rfl,rfl⟩ | refine AV.le.tup ?_ | refine AV.le.agg ?_ | exact li | exact lb | exact ls | exact lk | exact ld | exact lz | refine ⟨?_,?_⟩)) rfl (fun _=>rfl)) rfl ?_);exact hk.out):g:=h S ⟨k⟩
theorem wwgc {A g n:Prop} (S:A) (k:n) (h:A→Box n→g:=by intro S hk;(first | refine qCd rfl rfl rfl (fun hg=>⟨(sg (C:=True) hg).1,qCf rfl rfl (S) rfl rfl rfl⟩) ?_ | refine qCa rfl rfl rfl rfl (fun hg=>⟨(sg (C:=True) hg).1,qCf rfl rfl (S) rfl rfl rfl⟩) ?_);exact hk.out):g:=h S ⟨k⟩
theorem wwdc {A g n:Prop} (S:A) (k:n) (h:A→Box n→g:=by intro S hk;(first | refine qAm (os:=[]) (fun k hk1 hk2=>qCf rfl rfl (S) rfl rfl rfl) rfl ?_ | refine qAm (os:=[]) (fun k hk1 hk2=>qTb rfl rfl (S) rfl (by repeat (first | exact trivial | exact AV.le.refl _ | exact AV.le.dat | exact AV.le.nils | exact AV.le.nilsf | exact AV.le.any _ | exact ObLe.refl _ | exact ⟨rfl,rfl⟩ | refine AV.le.tup ?_ | refine AV.le.agg ?_ | exact li | exact lb | exact ls | exact lk | exact ld | exact lz | refine ⟨?_,?_⟩)) rfl rfl) rfl ?_);exact hk.out):g:=h S ⟨k⟩
theorem wwi {A g n:Prop} (S:A) (k:n) (h:A→Box n→g:=by intro S hk;(first | refine qAd (qAe (indexAddr_ok hT rfl rfl rfl rfl (by omega) (S))) rfl ?_ | refine qCb (qAe (indexAddr_ok hT rfl rfl rfl rfl (by omega) (S))) rfl rfl ?_);exact hk.out):g:=h S ⟨k⟩
theorem wwgi {A g n:Prop} (S:A) (k:n) (h:A→Box n→g:=by intro S hk;(first | refine qCd rfl rfl rfl (fun hg=>⟨(sg (C:=True) hg).1,qAe (indexAddr_ok hT rfl rfl rfl rfl (by omega) (S))⟩) ?_ | refine qCa rfl rfl rfl rfl (fun hg=>⟨(sg (C:=True) hg).1,qAe (indexAddr_ok hT rfl rfl rfl rfl (by omega) (S))⟩) ?_);exact hk.out):g:=h S ⟨k⟩
theorem wwk {A g n:Prop} (S:A) (k:n) (h:A→Box n→g:=by intro S hk;(repeat (first | refine qCa (v:=.d (.bool false)) rfl rfl rfl rfl (fun hg=>absurd hg (by rw [S];simp [gval])) ?_ | refine qCd (v:=.d (.bool false)) rfl rfl rfl (fun hg=>absurd hg (by rw [S];simp [gval])) ?_ | refine wk hT rfl rfl ?_ | refine wd hT rfl rfl rfl ?_ | refine wz hT rfl ?_ | refine qMb ?_ | refine qHm ?_ | refine wh hT rfl rfl rfl rfl ?_ | refine wg hT rfl rfl rfl rfl rfl ?_ | refine qAf ?_ | refine qAc ?_ | refine wx mixed ?_ | refine qGv ?_ | refine qDy ?_ | refine qBr ?_ | refine vAy ?_));exact hk.out):g:=h S ⟨k⟩
structure PS where
 a:Nat
 nt:List UInt8
 na:Nat
 wr:Bool
def psr (text:List UInt8):PS→List AV
 | ⟨a,nt,na,wr⟩=>[.d (.str text),.d (.int .i64 a),.d (.str nt),.d (.int .i64 na),.d (.bool wr)]
def qCg:Bool→List UInt8→Nat
 | _,[]=>0
 | false,c::r=>if c=32∨c=10 then qCg false r+1 else if c=35 then qCg true r+1 else 0
 | true,c::r=>if c=10 then qCg false r+1 else qCg true r+1
theorem skipS_le:∀ (b:Bool) (l:List UInt8),qCg b l≤l.length
 | _,[]=>by simp [qCg]
 | false,c::r=>by
  have h1:=skipS_le false r;have h2:=skipS_le true r
  simp only [qCg,List.length_cons];split
  ·omega
  ·split <;> omega
 | true,c::r=>by
  have h1:=skipS_le false r;have h2:=skipS_le true r
  simp only [qCg,List.length_cons];split <;> omega
set_option maxRecDepth 100000 in
theorem qYm (text:List UInt8) (s:PS) (ha:s.a≤text.length) (hl:text.length≤1000000) :
  Spec Tryz.prog 318 [.ptr 0 0] [.row (psr text s)] (fun r h'=>r=.tup []∧h'=[.row (psr text { s with a:=s.a+qCg false (text.drop s.a) })]):=by
 obtain ⟨a,nt,na,wr⟩:=s
 simp only at ha
 refine qAb hT Tryz.func318 rfl rfl (rs:=[]) rfl rfl ?_
 intro E hE
 refine qGv ?_
 refine qAn (ι:=Nat) (fun _=>[(0,.ptr 0 0)]) (fun b=>[.row (psr text ⟨b,nt,na,wr⟩)]) (fun b=>b≤text.length∧b+qCg false (text.drop b)=a+qCg false (text.drop a)) (fun b=>text.length-b) a ⟨ha,rfl⟩ yf (HLe.refl _) ?_
 intro b ⟨hb,hsk⟩
 refine ww ?_
 refine qAa rfl (fun h1=>?_) (fun h1=>?_)
 ·have hlt:b < text.length:=by simpa using h1
  have hd:text.drop b=text[b]::text.drop (b+1):=by simp
  have hat:=strAt_get hlt
  rw [hd] at hsk
  have hwr:IntKind.i64.wrap ((b:Int)+1)=((b+1:Nat):Int):=by rw [qAh (by omega)];simp
  have one:(text[b]=32∨text[b]=10)→b+1+qCg false (text.drop (b+1))=a+qCg false (text.drop a):=by
   intro hc;rw [← hsk,qCg,if_pos hc];omega
  have two:text[b]=35→b+1+qCg true (text.drop (b+1))=a+qCg false (text.drop a):=by
   intro hc;rw [← hsk,qCg,if_neg (by rw [hc];decide),if_pos hc];omega
  refine ww ?_
  refine qAa rfl (fun h2=>?_) (fun h2=>?_)
  ·have hc:text[b]=32:=by
    rw [hat] at h2;exact qKl (d:=32) rfl h2
   refine ww ?_
   refine qAa rfl (fun _=>?_) (fun hf=>by rw [h2] at hf;cases hf)
   refine ww ?_
   refine ⟨b+1,⟨by omega,one (.inl hc)⟩,by omega,yf,?_⟩
   exact ⟨⟨.refl _,AV.le.eq (by show AV.d (.int .i64 (IntKind.i64.wrap ((b:Int)+1)))=_;rw [hwr]),.refl _,.refl _,.refl _,trivial⟩,trivial⟩
  ·have hn32:¬ text[b]=32:=by
    intro hc;rw [hat,hc] at h2;simp at h2
   refine ww ?_
   refine qAa rfl (fun h3=>?_) (fun h3=>?_)
   ·have hc:text[b]=10:=by
     rw [hat] at h3;exact qKl (d:=10) rfl h3
    refine ww ?_
    refine ⟨b+1,⟨by omega,one (.inr hc)⟩,by omega,yf,?_⟩
    exact ⟨⟨.refl _,AV.le.eq (by show AV.d (.int .i64 (IntKind.i64.wrap ((b:Int)+1)))=_;rw [hwr]),.refl _,.refl _,.refl _,trivial⟩,trivial⟩
   ·have hn10:¬ text[b]=10:=by
     intro hc;rw [hat,hc] at h3;simp at h3
    refine ww ?_
    refine qAa rfl (fun h4=>?_) (fun h4=>?_)
    ·have hc:text[b]=35:=by
      rw [hat] at h4;exact qKl (d:=35) rfl h4
     refine ww ?_
     refine qAn (ι:=Nat) (fun _=>[(0,.ptr 0 0)]) (fun e=>[.row (psr text ⟨e,nt,na,wr⟩)])
      (fun e=>b≤e∧e≤text.length∧(e=b∨b < e∧e+qCg true (text.drop e)=a+qCg false (text.drop a))) (fun e=>text.length-e) b ⟨by omega,by omega,.inl rfl⟩ yf (HLe.refl _) ?_
     intro e ⟨he1,he2,he3⟩
     refine ww ?_
     refine qAa rfl (fun h5=>?_) (fun h5=>?_)
     ·have h5':e < text.length∧¬ qGa text e=10:=by simpa using h5
      have hlt2:=h5'.1
      have hne:¬ text[e]=10:=by
       intro hc;apply h5'.2;rw [strAt_get hlt2,hc];rfl
      have hd2:text.drop e=text[e]::text.drop (e+1):=by simp
      have hwr2:IntKind.i64.wrap ((e:Int)+1)=((e+1:Nat):Int):=by rw [qAh (by omega)];simp
      have hnext:e+1+qCg true (text.drop (e+1))=a+qCg false (text.drop a):=by
       rcases he3 with rfl | ⟨_,he4⟩
       ·exact two hc
       ·rw [hd2,qCg,if_neg hne] at he4;omega
      refine ww ?_
      refine ⟨e+1,⟨by omega,by omega,.inr ⟨by omega,hnext⟩⟩,by omega,yf,?_⟩
      exact ⟨⟨.refl _,AV.le.eq (by show AV.d (.int .i64 (IntKind.i64.wrap ((e:Int)+1)))=_;rw [hwr2]),.refl _,.refl _,.refl _,trivial⟩,trivial⟩
     ·refine ww ?_
      have h5':e < text.length→qGa text e=10:=by
       intro hlt2;simpa [hlt2] using h5
      have hbe:b < e∧e+qCg true (text.drop e)=a+qCg false (text.drop a):=by
       rcases he3 with rfl | he4
       ·have:=h5' hlt;rw [hat,hc] at this;simp at this
       ·exact he4
      have hsame:qCg false (text.drop e)=qCg true (text.drop e):=by
       by_cases hlt2:e < text.length
       ·have h6:=h5' hlt2
        have hc10:text[e]=10:=by rw [strAt_get hlt2] at h6;exact qKl (d:=10) rfl (by rw [h6];rfl)
        have hd2:text.drop e=text[e]::text.drop (e+1):=by simp
        rw [hd2,hc10];rfl
       ·rw [List.drop_eq_nil_of_le (by omega)];rfl
      refine ⟨e,⟨by omega,by rw [hsame];exact hbe.2⟩,by omega,yf,HLe.refl _⟩
    ·have hn35:¬ text[b]=35:=by
      intro hc;rw [hat,hc] at h4;simp at h4
     refine ww ?_
     refine ⟨_,_,_,rfl,fun _ _ h=>h,rfl,rfl,rfl,rfl,rfl,?_⟩
     rw [qCg,if_neg (by rintro (h | h) <;> contradiction),if_neg hn35] at hsk
     simp only [List.take,List.length]
     rw [← hsk];rfl
 ·refine ww ?_
  have:b=text.length:=by simp at h1;omega
  refine ⟨_,_,_,rfl,fun _ _ h=>h,rfl,rfl,rfl,rfl,rfl,?_⟩
  simp [this,qCg] at hsk
  simp only [List.take,List.length]
  rw [← hsk,this]
def qZn (c:UInt8):Bool:=decide (97≤c.toNat)&&decide (c.toNat≤122)
def lets:List UInt8→Nat
 | []=>0
 | c::r=>if qZn c then lets r+1 else 0
theorem qZf:∀ (l:List UInt8),lets l≤l.length
 | []=>by simp [lets]
 | c::r=>by have:=qZf r;simp only [lets,List.length_cons];split <;> omega
def wlen (l:List UInt8):Nat:=if lets l=0∧l≠[] then 1 else lets l
theorem qRs (l:List UInt8):wlen l≤l.length:=by
 unfold wlen
 split
 ·rename_i h;have:=List.length_pos_iff.2 h.2;omega
 ·exact qZf l
def qHh (text:List UInt8) (s:PS):PS :=
 ⟨s.a+qCg false (text.drop s.a)+wlen (text.drop (s.a+qCg false (text.drop s.a))),(text.drop (s.a+qCg false (text.drop s.a))).take (wlen (text.drop (s.a+qCg false (text.drop s.a)))),s.a+qCg false (text.drop s.a),s.wr⟩
theorem nextP_le (text:List UInt8) (s:PS) (h:s.a≤text.length):(qHh text s).a≤text.length:=by
 have h1:=skipS_le false (text.drop s.a)
 have h2:=qRs (text.drop (s.a+qCg false (text.drop s.a)))
 simp only [List.length_drop] at h1 h2
 simp only [qHh];omega
set_option maxRecDepth 100000 in
theorem qLd (text:List UInt8) (s:PS) (ha:s.a≤text.length) (hl:text.length≤1000000) :
  Spec Tryz.prog 220 [.ptr 0 0] [.row (psr text s)] (fun r h'=>r=.tup []∧h'=[.row (psr text (qHh text s))]):=by
 have hsk:=skipS_le false (text.drop s.a)
 simp only [List.length_drop] at hsk
 have hskip:=qYm text s ha hl
 have hnx:qHh text s=⟨s.a+qCg false (text.drop s.a)+wlen (text.drop (s.a+qCg false (text.drop s.a))),(text.drop (s.a+qCg false (text.drop s.a))).take (wlen (text.drop (s.a+qCg false (text.drop s.a)))),s.a+qCg false (text.drop s.a),s.wr⟩:=rfl
 rw [hnx]
 generalize hb:s.a+qCg false (text.drop s.a)=b at hskip ⊢
 obtain ⟨a,nt,na,wr⟩:=s
 simp only at ha hb hsk
 have hbl:b≤text.length:=by omega
 refine qAb hT Tryz.func220 rfl rfl (rs:=[]) rfl rfl ?_
 intro E hE
 refine ww ?_
 refine qAd (qFd rfl rfl hskip [0] (by decide) rfl rfl rfl rfl rfl rfl) rfl ?_
 refine ww ?_
 refine qAn (ι:=Nat) (fun _=>[(0,.ptr 0 0),(2,.I b)]) (fun e=>[.row (psr text ⟨e,nt,na,wr⟩)]) (fun e=>b≤e∧e≤text.length∧e+lets (text.drop e)=b+lets (text.drop b)) (fun e=>text.length-e) b ⟨by omega,by omega,rfl⟩ yf (HLe.refl _) ?_
 intro e ⟨he1,he2,he3⟩
 refine ww ?_
 refine qAa rfl (fun h1=>?_) (fun h1=>?_)
 ·have h1':e < text.length∧97≤qGa text e∧qGa text e≤122:=by simpa [and_assoc] using h1
  have hlt:=h1'.1
  have hd2:text.drop e=text[e]::text.drop (e+1):=by simp
  have hwr2:IntKind.i64.wrap ((e:Int)+1)=((e+1:Nat):Int):=by rw [qAh (by omega)];simp
  have hlow:qZn text[e]=true:=by rw [strAt_get hlt] at h1';simp [qZn];omega
  rw [hd2,lets,if_pos hlow] at he3
  refine ww ?_
  refine ⟨e+1,⟨by omega,by omega,by omega⟩,by omega,yf,?_⟩
  exact ⟨⟨.refl _,AV.le.eq (by show AV.d (.int .i64 (IntKind.i64.wrap ((e:Int)+1)))=_;rw [hwr2]),.refl _,.refl _,.refl _,trivial⟩,trivial⟩
 ·have hend:lets (text.drop e)=0:=by
   by_cases hlt:e < text.length
   ·have hd2:text.drop e=text[e]::text.drop (e+1):=by simp
    have:¬ qZn text[e]=true:=by
     intro hh
     rw [strAt_get hlt] at h1
     simp [qZn] at hh
     simp [hlt,hh] at h1
     omega
    rw [hd2,lets,if_neg this]
   ·rw [List.drop_eq_nil_of_le (by omega)];rfl
  have he:e=b+lets (text.drop b):=by omega
  have hcut:∀ w:Nat,qRp text (b:Int) ((b+w:Nat):Int)=(text.drop b).take w:=by
   intro w;unfold qRp;congr 1;omega
  refine wwe ?_
  refine qFg (ι:=Unit) (fun _=>[(0,.ptr 0 0),(2,.I b)]) (fun _=>[.row (psr text ⟨b+wlen (text.drop b),nt,na,wr⟩)]) (fun _=>True) ?_ ?_
  ·refine ww ?_
   refine qAa rfl (fun h2=>?_) (fun h2=>?_)
   ·have h2':(e:Int)=b∧e < text.length:=by simpa using h2
    have hw:wlen (text.drop b)=1:=by
     unfold wlen;rw [if_pos ⟨by omega,by intro hn;rw [List.drop_eq_nil_iff] at hn;omega⟩]
    have hwr2:IntKind.i64.wrap ((e:Int)+1)=((b+wlen (text.drop b):Nat):Int):=by rw [qAh (by omega),hw];omega
    refine ww ?_
    refine ⟨(),trivial,yf,?_⟩
    exact ⟨⟨.refl _,AV.le.eq (by show AV.d (.int .i64 (IntKind.i64.wrap ((e:Int)+1)))=_;rw [hwr2]),.refl _,.refl _,.refl _,trivial⟩,trivial⟩
   ·have h2':(e:Int)=b→text.length≤b:=by intro hh;simpa [hh] using h2
    have hw:e=b+wlen (text.drop b):=by
     unfold wlen;rw [if_neg (by rintro ⟨h3,h4⟩;apply h4;rw [List.drop_eq_nil_iff];have:=h2' (by omega);omega)];exact he
    subst hw
    refine ww ?_
    exact ⟨(),trivial,yf,HLe.refl _⟩
  ·intro _ _
   have hwl:=qRs (text.drop b)
   simp only [List.length_drop] at hwl
   refine qBu (fun i=>bif Nat.beq i 4||Nat.beq i 9||Nat.beq i 15 then [0] else []) (fun i=>bif Nat.beq i 15 then [0] else []) mixed (by kernel_rfl) ?_
   refine wwg ?_
   refine ⟨_,_,_,rfl,fun _ _ h=>h,rfl,rfl,rfl,rfl,rfl,?_⟩
   simp only [List.take,List.length]
   rw [← hcut];rfl
def qAg (l:List (List UInt8)):List (List Dat):=l.map fun s=>[.str s]
def qPe (l:List (List UInt8)) (s:List UInt8):Int:=match l.findIdx? (fun x=>x == s) with
 | some i=>i
 | none=>-1
theorem sIdx_bound (l:List (List UInt8)) (s:List UInt8) : -1≤qPe l s∧qPe l s < l.length:=by
 unfold qPe
 split
 ·rename_i i h
  have:=(List.findIdx?_eq_some_iff_getElem.1 h).1
  omega
 ·omega
theorem sIdx_at {l:List (List UInt8)} {s:List UInt8} {k:Nat} (hk:k < l.length) (h:l[k]=s) (hb:∀ j,(hj:j < k)→l[j]'(by omega)≠s):qPe l s=k:=by
 unfold qPe
 have:l.findIdx? (fun x=>x == s)=some k:=by
  rw [List.findIdx?_eq_some_iff_getElem]
  exact ⟨hk,by simp [h],fun j hj=>by simpa using hb j hj⟩
 rw [this]
theorem sIdx_none {l:List (List UInt8)} {s:List UInt8} (hb:∀ j,(hj:j < l.length)→l[j]≠s):qPe l s = -1:=by
 unfold qPe
 have:l.findIdx? (fun x=>x == s)=none:=by
  rw [List.findIdx?_eq_none_iff]
  intro x hx
  obtain ⟨j,hj,rfl⟩:=List.mem_iff_getElem.1 hx
  simpa using hb j hj
 rw [this]
set_option maxRecDepth 100000 in
theorem qNd (l:List (List UInt8)) (s:List UInt8) (hl:l.length≤1000000) :
  Spec Tryz.prog 31 [.d (.sl 1 (qAg l)),.d (.str s)] [] (fun r h'=>r=.I (qPe l s)∧h'=[]):=by
 refine qAb hT Tryz.func31 rfl rfl rfl rfl ?_
 intro E hE
 have hlen:(qAg l).length=l.length:=by simp [qAg]
 refine ww ?_
 refine qAn (ι:=Nat) (fun k=>[(0,.d (.sl 1 (qAg l))),(1,.d (.str s)),(7,.d (.int .i64 (qAg l).length)),(8,.I k)]) (fun _=>[]) (fun k=>k≤l.length∧∀ j,(hj:j < k)→(hj2:j < l.length)→l[j]≠s) (fun k=>l.length-k) 0
  ⟨by omega,fun j hj=>by omega⟩ yf (HLe.refl _) ?_
 intro k ⟨hk,hb⟩
 refine ww ?_
 refine qAa rfl (fun h1=>?_) (fun h1=>?_)
 ·have hlt:k < l.length:=by rw [hlen] at h1;simpa using h1
  have hel:(qAg l)[((k:Int)).toNat]?=some [.str l[k]]:=by simp [qAg,hlt]
  refine ww ?_
  refine qAd (qAe (indexAddr_ok hT rfl rfl rfl rfl (by omega) hel)) rfl ?_
  refine ww ?_
  refine qAa rfl (fun h2=>?_) (fun h2=>?_)
  ·have h2':s=l[k]:=by simpa using h2
   refine ww ?_
   refine qAj rfl (.refl _) rfl rfl rfl rfl ⟨?_,rfl⟩
   show AV.d (.int .i64 (k:Int))=_
   rw [sIdx_at hlt h2'.symm (fun j hj=>hb j hj (by omega))]
  ·have h2':¬ s=l[k]:=by simpa using h2
   refine ww ?_
   refine ⟨k+1,⟨by omega,fun j hj hj2=>?_⟩,by omega,⟨.refl _,.refl _,.refl _,AV.le.eq ?_,trivial⟩,HLe.refl _⟩
   ·by_cases hjk:j=k
    ·subst hjk;exact fun hh=>h2' hh.symm
    ·exact hb j (by omega) hj2
   ·show AV.d (.int .i64 (IntKind.i64.wrap ((k:Int)+1)))=_
    rw [qAh (by omega)];rfl
 ·have hge:k=l.length:=by rw [hlen] at h1;simp at h1;omega
  refine ww ?_
  refine qAj rfl (.refl _) rfl rfl rfl rfl ⟨?_,rfl⟩
  show AV.d (.int .i64 (-1))=_
  rw [sIdx_none (fun j hj=>hb j (by omega) hj)]
set_option maxRecDepth 100000 in
theorem qSh (l:List (List UInt8)) (s:List UInt8) (hl:l.length≤1000000) :
  Spec Tryz.prog 443 [.d (.sl 1 (qAg l)),.d (.str s)] [] (fun r h'=>r=.I (qPe l s+1)∧h'=[]):=by
 refine qAb hT Tryz.func443 rfl rfl rfl rfl ?_
 intro E hE
 have hb:=sIdx_bound l s
 refine ww ?_
 refine qAd (qCf rfl rfl (qNd l s hl) rfl rfl rfl) rfl ?_
 refine ww ?_
 refine qAj rfl (.refl _) rfl rfl rfl rfl ⟨?_,rfl⟩
 show AV.d (.int .i64 (IntKind.i64.wrap (qPe l s+1)))=_
 rw [qAh (by omega)]
def chk:List (List UInt8):=[[102,111,114,109],[115,105,103,110,97,116,117,114,101],[112,97,116,104],[114,101,118,111,99,97,116,105,111,110],[102,114,101,115,104],[104,97,115,104,101,115],[103,114,111,117,112,115],[122,111,110,101],[101,120,112,105,114,121],[115,116,97,116,101],[97,99,99,101,115,115],[99,104,105,112],[97,99,116,105,118,101]]
def vls:List (List UInt8):=[[103,111,111,100],[98,97,100],[119,97,105,118,101,100],[109,105,115,115,105,110,103]]
def vds:List (List UInt8):=[[97,99,99,101,112,116],[114,101,102,101,114],[114,101,102,117,115,101]]
theorem qUs:Spec Tryz.prog 85 [] [] (fun r h'=>r=.d (.sl 1 (qAg chk))∧h'=[]):=by
 refine qAb hT Tryz.func85 rfl rfl rfl rfl ?_
 intro E hE
 refine ww ?_
 exact qAj rfl AV.le.dat rfl rfl rfl rfl ⟨rfl,rfl⟩
theorem qTh:Spec Tryz.prog 86 [] [] (fun r h'=>r=.d (.sl 1 (qAg vls))∧h'=[]):=by
 refine qAb hT Tryz.func86 rfl rfl rfl rfl ?_
 intro E hE
 refine ww ?_
 exact qAj rfl AV.le.dat rfl rfl rfl rfl ⟨rfl,rfl⟩
theorem qOi:Spec Tryz.prog 84 [] [] (fun r h'=>r=.d (.sl 1 (qAg vds))∧h'=[]):=by
 refine qAb hT Tryz.func84 rfl rfl rfl rfl ?_
 intro E hE
 refine ww ?_
 exact qAj rfl AV.le.dat rfl rfl rfl rfl ⟨rfl,rfl⟩
theorem qZc (k:Nat) (text:List UInt8) (s:PS):qBl k (psr text s)=true:=by cases s;rfl
theorem lowH_psr (k:Nat) (text:List UInt8) (s:PS):qCn k [.row (psr text s)]=true:=by cases s;rfl
def isP (text:List UInt8) (s:PS) (w:List UInt8):Bool×PS:=if s.wr=true∨s.nt≠w then (false,s) else (true,qHh text s)
def qHx (text:List UInt8) (s:PS) (l:List (List UInt8)):Int×PS:=if qPe l s.nt+1=0∨s.wr=true then (0,{ s with wr:=true }) else (qPe l s.nt+1,qHh text s)
def qHz (text:List UInt8) (s:PS) (w:List UInt8):PS:=if (isP text s w).1 then (isP text s w).2 else { (isP text s w).2 with wr:=true }
set_option maxRecDepth 100000 in
theorem qIx (text:List UInt8) (s:PS) (w:List UInt8) (ha:s.a≤text.length) (hl:text.length≤1000000) :
  Spec Tryz.prog 320 [.ptr 0 0,.d (.str w)] [.row (psr text s)] (fun r h'=>r=.d (.bool (isP text s w).1)∧h'=[.row (psr text (isP text s w).2)]):=by
 have hnext:=qLd text s ha hl
 unfold isP
 generalize qHh text s=s' at hnext ⊢
 obtain ⟨a,nt,na,wr⟩:=s
 refine qAb hT Tryz.func320 rfl rfl rfl rfl ?_
 intro E hE
 refine ww ?_
 refine qAa rfl (fun h1=>?_) (fun h1=>?_)
 ·have h1':wr=true∨nt≠w:=by simpa using h1
  rw [if_pos h1']
  refine ww ?_
  exact qAj rfl (.refl _) rfl rfl rfl rfl ⟨rfl,rfl⟩
 ·have h1':¬ (wr=true∨nt≠w):=by simpa using h1
  rw [if_neg h1']
  refine ww ?_
  refine qAd (qAk rfl rfl hnext [0] (by decide) rfl rfl rfl rfl (lowH_psr 0 _ _) rfl rfl) rfl ?_
  refine ww ?_
  exact qAj rfl (.refl _) rfl rfl rfl (lowH_psr _ _ _) ⟨rfl,rfl⟩
set_option maxRecDepth 100000 in
theorem qNp (text:List UInt8) (s:PS) (l:List (List UInt8)) (ha:s.a≤text.length) (hl:text.length≤1000000) (hll:l.length≤1000000) :
  Spec Tryz.prog 319 [.ptr 0 0,.d (.sl 1 (qAg l))] [.row (psr text s)] (fun r h'=>r=.d (.int .i64 (qHx text s l).1)∧h'=[.row (psr text (qHx text s l).2)]):=by
 have hnext:=qLd text s ha hl
 unfold qHx
 generalize qHh text s=s' at hnext ⊢
 obtain ⟨a,nt,na,wr⟩:=s
 refine qAb hT Tryz.func319 rfl rfl rfl rfl ?_
 intro E hE
 refine ww ?_
 refine qAd (qCf rfl rfl (qSh l nt hll) rfl rfl rfl) rfl ?_
 refine ww ?_
 refine qAa rfl (fun h1=>?_) (fun h1=>?_)
 ·have h1':qPe l nt+1=0∨wr=true:=by simpa using h1
  rw [if_pos h1']
  refine ww ?_
  exact qAj rfl (.refl _) rfl rfl rfl rfl ⟨rfl,rfl⟩
 ·have h1':¬ (qPe l nt+1=0∨wr=true):=by simpa using h1
  rw [if_neg h1']
  refine ww ?_
  refine qAd (qAk rfl rfl hnext [0] (by decide) rfl rfl rfl rfl (lowH_psr 0 _ _) rfl rfl) rfl ?_
  refine ww ?_
  exact qAj rfl (.refl _) rfl rfl rfl (lowH_psr _ _ _) ⟨rfl,rfl⟩
set_option maxRecDepth 100000 in
theorem qLe (text:List UInt8) (s:PS) (w:List UInt8) (ha:s.a≤text.length) (hl:text.length≤1000000) :
  Spec Tryz.prog 322 [.ptr 0 0,.d (.str w)] [.row (psr text s)] (fun r h'=>r=.tup []∧h'=[.row (psr text (qHz text s w))]):=by
 have his:=qIx text s w ha hl
 unfold qHz
 generalize isP text s w=bs at his ⊢
 obtain ⟨b,a,nt,na,wr⟩:=bs
 refine qAb hT Tryz.func322 rfl rfl rfl rfl ?_
 intro E hE
 refine ww ?_
 refine qAd (qAk rfl rfl his [0] (by decide) rfl rfl rfl (lowH_psr 0 _ _) (lowH_psr 0 _ _) rfl rfl) rfl ?_
 refine ww ?_
 refine qAa rfl (fun h1=>?_) (fun h1=>?_)
 ·have h1':b=false:=by simpa using h1
  subst h1'
  refine ww ?_
  exact qIs rfl (.refl _) rfl rfl rfl rfl ⟨rfl,rfl⟩
 ·have h1':b=true:=by simpa using h1
  subst h1'
  refine ww ?_
  exact qIs rfl (.refl _) rfl rfl rfl rfl ⟨rfl,rfl⟩
inductive Cond where
 | mk (k c v:Int) (kids:List Cond)
mutual
def vFu:Cond→List Dat
 | .mk k c v kids=>[.int .i64 k,.int .i64 c,.int .i64 v,.sl 4 (qEc kids)]
def qEc:List Cond→List (List Dat)
 | []=>[]
 | a::l=>vFu a::qEc l
end
def cAV (c:Cond):AV:=.agg ((vFu c).map .d)
theorem encCs_eq:∀ (l:List Cond),qEc l=l.map vFu
 | []=>rfl
 | a::l=>by simp [qEc,encCs_eq l]
theorem encCs_length (l:List Cond):(qEc l).length=l.length:=by rw [encCs_eq];simp
theorem encCs_append (a b:List Cond):qEc (a++b)=qEc a++qEc b:=by simp [encCs_eq]
theorem qSn (k:Nat) (c:Cond):low k (cAV c)=true:=lowL_d (vFu c)
set_option maxRecDepth 100000 in
theorem qUr (es:List (List Dat)) (hl:es.length≤2000000) :
  Spec Tryz.prog 589 [.d (.sl 4 es)] [.room] (fun r h'=>r=.sl 4 es (.right 0)∧h'=[.right 4 es.length]):=by
 refine qAb hT Tryz.func589 rfl rfl rfl rfl ?_
 intro E hE
 refine ww ?_
 refine qDx (eqNil_ok hT (fun _=>rfl) rfl rfl rfl) rfl ?_
 rintro v h' ⟨rfl,b,rfl,hb⟩
 refine ww ?_
 refine qAa rfl (fun h1=>?_) (fun h1=>?_)
 ·obtain rfl:=hb h1
  refine qAf (qAc ?_)
  refine wws ?_
  refine qBc 2 4 0 (es:=[]) (.inr ⟨rfl,rfl⟩) rfl ?_
  refine ww ?_
  exact qAj rfl (.refl _) rfl rfl rfl rfl ⟨rfl,rfl⟩
 ·refine ww ?_
  refine qAd (qLp (i:=0) hT rfl rfl rfl (.inl rfl) (by simp) rfl rfl (by simp;omega)) rfl ?_
  refine ww ?_
  exact qAj rfl (.refl _) rfl rfl rfl rfl ⟨rfl,by simp⟩
def qFy (kind:Int):Cond→List Cond
 | .mk k c v kids=>if k=kind then kids else [.mk k c v kids]
def qJv:Cond→Nat
 | .mk _ _ _ kids=>kids.length
set_option maxRecDepth 100000 in
theorem flatR_spec (kind:Int) (c:Cond) (hl:qJv c≤2000000) :
  Spec Tryz.prog 537 [.I kind,cAV c] [.room] (fun r h'=>r=.sl 4 (qEc (qFy kind c)) (.right 0)∧h'=[.right 4 (qEc (qFy kind c)).length]):=by
 obtain ⟨k,ch,v,kids⟩:=c
 simp only [qJv] at hl
 refine qAb hT Tryz.func537 rfl rfl rfl rfl ?_
 intro E hE
 refine ww ?_
 refine qAa rfl (fun h1=>?_) (fun h1=>?_)
 ·have h1':k=kind:=by simpa using h1
  rw [qFy,if_pos h1']
  refine ww ?_
  refine qAd (qAk rfl rfl (qUr (qEc kids) (by rw [encCs_length];exact hl)) [0] (by decide) rfl rfl rfl rfl rfl rfl rfl) rfl ?_
  refine ww ?_
  exact qAj rfl (.refl _) rfl rfl rfl rfl ⟨rfl,rfl⟩
 ·have h1':¬ k=kind:=by simpa using h1
  rw [qFy,if_neg h1']
  refine wwe ?_
  refine qAf (qAc ?_)
  refine wws ?_
  refine qBc 4 4 0 (.inl rfl) rfl ?_
  refine ww ?_
  exact qAj rfl (.refl _) rfl rfl rfl rfl ⟨rfl,rfl⟩
theorem qZs (kind:Int) (c:Cond) (hl:qJv c≤2000000) :
  Spec Tryz.prog 537 [.I kind,cAV c] [] (fun r h'=>r=.d (.sl 4 (qEc (qFy kind c)))∧h'=[]) :=
 (flatR_spec kind c hl).drop fun r h' ⟨h1,h2⟩=>⟨_,by subst h1;exact AV.le.dat,rfl,rfl,rfl,rfl⟩
structure Inv (text:List UInt8) (s:PS):Prop where
 a:s.a=s.na+s.nt.length
 le:s.a≤text.length
theorem Inv.next {text:List UInt8} {s:PS} (h:Inv text s):Inv text (qHh text s)∧s.na+s.nt.length≤(qHh text s).na∧(qHh text s).wr=s.wr:=by
 have h1:=skipS_le false (text.drop s.a)
 have h2:=qRs (text.drop (s.a+qCg false (text.drop s.a)))
 simp only [List.length_drop] at h1 h2
 have:=h.a;have:=h.le
 refine ⟨⟨?_,nextP_le text s h.le⟩,?_,rfl⟩
 ·simp only [qHh,List.length_take,List.length_drop];omega
 ·simp only [qHh];omega
theorem isP_true {text:List UInt8} {s:PS} {w:List UInt8} (h:Inv text s) (ht:(isP text s w).1=true):Inv text (isP text s w).2∧s.na+w.length≤(isP text s w).2.na∧(isP text s w).2.na≤text.length:=by
 unfold isP at ht ⊢
 split at ht
 ·cases ht
 ·rename_i hc
  rw [if_neg hc]
  have hw:s.nt=w:=by simp at hc;exact hc.2
  obtain ⟨h1,h2,_⟩:=h.next
  rw [hw] at h2
  refine ⟨h1,h2,?_⟩
  have:=h1.a;have:=h1.le;simp only at *;omega
theorem isP_false {text:List UInt8} {s:PS} {w:List UInt8} (ht:(isP text s w).1=false):(isP text s w).2=s:=by
 unfold isP at ht ⊢
 split
 ·rfl
 ·rename_i hc;rw [if_neg hc] at ht;cases ht
theorem Inv.wr {text:List UInt8} {s:PS} (h:Inv text s) (b:Bool):Inv text { s with wr:=b }:=⟨h.a,h.le⟩
theorem oneP_inv {text:List UInt8} {s:PS} {l:List (List UInt8)} (h:Inv text s):Inv text (qHx text s l).2∧s.na≤(qHx text s l).2.na:=by
 unfold qHx
 split
 ·exact ⟨h.wr true,Nat.le_refl _⟩
 ·obtain ⟨h1,h2,_⟩:=h.next;exact ⟨h1,by simp only;omega⟩
theorem needP_inv {text:List UInt8} {s:PS} {w:List UInt8} (h:Inv text s):Inv text (qHz text s w)∧s.na≤(qHz text s w).na:=by
 unfold qHz
 cases hb:(isP text s w).1 with
 | true=>rw [if_pos rfl];obtain ⟨h1,h2,_⟩:=isP_true h hb;exact ⟨h1,by omega⟩
 | false=>rw [isP_false hb];exact ⟨h.wr true,Nat.le_refl _⟩
def qIv (text:List UInt8) (kind:Int) (w:List UInt8) (part:PS→Cond×PS):Nat→List Cond→PS→List Cond×PS
 | 0,l,s=>(l,s)
 | m+1,l,s=>if (isP text s w).1 then qIv text kind w part m (l++qFy kind (part (isP text s w).2).1) (part (isP text s w).2).2 else (l,(isP text s w).2)
def qDb (text:List UInt8) (kind:Int) (w:List UInt8) (part:PS→Cond×PS) (s:PS):Cond×PS :=
 if (part s).2.nt≠w∨(part s).2.wr=true then part s else
  (.mk kind 0 0 (qIv text kind w part (text.length+1) (qFy kind (part s).1) (part s).2).1,(qIv text kind w part (text.length+1) (qFy kind (part s).1) (part s).2).2)
structure PartOk (text:List UInt8) (n:Nat) (part:PS→Cond×PS):Prop where
 inv:∀ s,Inv text s→text.length-s.na < n→Inv text (part s).2∧s.na≤(part s).2.na∧qJv (part s).1≤1+((part s).2.na-s.na)
theorem flatC_len (kind:Int) (c:Cond):(qFy kind c).length≤max 1 (qJv c):=by
 cases c;simp only [qFy,qJv];split
 ·omega
 ·simp only [List.length_cons,List.length_nil];omega
theorem loopP_ok {text:List UInt8} {n:Nat} {part:PS→Cond×PS} (hp:PartOk text n part) (kind:Int) {w:List UInt8} (hw:w≠[]):∀ (m:Nat) (l:List Cond) (s:PS) (b:Nat),Inv text s→text.length-s.na < n→l.length≤1+(s.na-b)→b≤s.na →
  Inv text (qIv text kind w part m l s).2∧s.na≤(qIv text kind w part m l s).2.na∧(qIv text kind w part m l s).1.length≤1+((qIv text kind w part m l s).2.na-b)
 | 0,l,s,b,h,hn,hl,hb=>⟨h,Nat.le_refl _,hl⟩
 | m+1,l,s,b,h,hn,hl,hb=>by
  unfold qIv
  cases hi:(isP text s w).1 with
  | false=>rw [if_neg (by simp),isP_false hi];exact ⟨h,Nat.le_refl _,hl⟩
  | true =>
   rw [if_pos rfl]
   obtain ⟨h1,h2,h3⟩:=isP_true h hi
   have hwl:0 < w.length:=List.length_pos_iff.2 hw
   obtain ⟨k1,k2,k3⟩:=hp.inv _ h1 (by omega)
   have hf:=flatC_len kind (part (isP text s w).2).1
   have:=loopP_ok hp kind hw m (l++qFy kind (part (isP text s w).2).1) _ b k1 (by omega) (by simp only [List.length_append];omega) (by omega)
   exact ⟨this.1,by omega,this.2.2⟩
theorem seriesP_ok {text:List UInt8} {n:Nat} {part:PS→Cond×PS} (hp:PartOk text n part) (kind:Int) {w:List UInt8} (hw:w≠[]):PartOk text n (qDb text kind w part):=by
 refine ⟨fun s h hn=>?_⟩
 obtain ⟨k1,k2,k3⟩:=hp.inv s h hn
 unfold qDb
 split
 ·exact ⟨k1,k2,k3⟩
 ·have hf:=flatC_len kind (part s).1
  have:=loopP_ok hp kind hw (text.length+1) (qFy kind (part s).1) (part s).2 s.na k1 (by omega) (by omega) k2
  exact ⟨this.1,by simp only;omega,by simp only [qJv];exact this.2.2⟩
def PartSpec (text:List UInt8) (n:Nat) (g:FuncId) (part:PS→Cond×PS):Prop :=
 ∀ s,Inv text s→text.length-s.na < n→Spec Tryz.prog g [.ptr 0 0] [.row (psr text s)] (fun r h'=>r=cAV (part s).1∧h'=[.row (psr text (part s).2)])
theorem qHf (f:Nat→Nat) (c:Cond):ren f (cAV c)=cAV c:=qKx f _ (qSn 0 c)
set_option maxRecDepth 100000 in
theorem qKu {text:List UInt8} {n:Nat} {g:FuncId} {part:PS→Cond×PS} (hl:text.length≤1000000) (hp:PartOk text n part) (HS:PartSpec text n g part) (kind:Int) {w:List UInt8} (hw:w≠[]) (s:PS) (h:Inv text s) (hn:text.length-s.na < n) :
  Spec Tryz.prog 444 [.ptr 0 0,.I kind,.d (.str w),.fn (.func g) [.ptr 0 0] []] [.row (psr text s)] (fun r h'=>r=cAV (qDb text kind w part s).1∧h'=[.row (psr text (qDb text kind w part s).2)]):=by
 have hS:=HS s h hn
 obtain ⟨k1,k2,k3⟩:=hp.inv s h hn
 unfold qDb
 generalize hps:part s=ps at hS k1 k2 k3 ⊢
 obtain ⟨⟨ck,cc,cv,kids⟩,⟨a1,nt1,na1,wr1⟩⟩:=ps
 simp only at hS k1 k2 k3 ⊢
 refine qAb hT Tryz.func444 rfl rfl rfl rfl ?_
 intro E hE
 refine ww ?_
 refine qAd (qAk rfl rfl hS [0] (by decide) rfl rfl rfl (lowH_psr 0 _ _) (lowH_psr 0 _ _) (qHf _ _) rfl) rfl ?_
 refine ww ?_
 refine qAa rfl (fun h1=>?_) (fun h1=>?_)
 ·have h1':nt1≠w∨wr1=true:=by simpa using h1
  rw [if_pos h1']
  refine ww ?_
  exact qAj rfl (.refl _) rfl rfl rfl rfl ⟨rfl,rfl⟩
 ·have h1':¬ (nt1≠w∨wr1=true):=by simpa using h1
  rw [if_neg h1']
  refine wwe ?_
  refine qAq ?_
  refine ww ?_
  have hwide:qJv (.mk ck cc cv kids)≤2000000:=by have:=k1.a;have:=k1.le;simp only at *;omega
  refine qAd (qFd rfl rfl (flatR_spec kind (.mk ck cc cv kids) hwide) [3] (by decide) rfl rfl rfl rfl rfl rfl) rfl ?_
  refine ww ?_
  generalize hfin:qIv text kind w part (text.length+1) (qFy kind (.mk ck cc cv kids)) ⟨a1,nt1,na1,wr1⟩=fin
  have hf:=flatC_len kind (.mk ck cc cv kids)
  refine qEs (ι:=List Cond×PS)
   (fun x=>[(0,.ptr 0 0),(1,.I kind),(2,.d (.str w)),(3,.fn (.func g) [.ptr 0 0] []),(8,.ptr 1 0),(10,.sl 4 (qEc x.1) (.right 3))])
   (fun x=>[.row (psr text x.2),.row [.I 0,.I 0,.I 0,.sl 4 [] .full],.dead,.right 4 (qEc x.1).length])
   (fun x=>Inv text x.2∧s.na≤x.2.na∧x.1.length≤1+(x.2.na-s.na)∧∃ m,text.length-x.2.na < m∧qIv text kind w part m x.1 x.2=fin)
   (fun x=>text.length-x.2.na) (qFy kind (.mk ck cc cv kids),⟨a1,nt1,na1,wr1⟩) ⟨k1,k2,by simp only [qJv] at *;omega,_,by simp only;omega,hfin⟩
   yf ⟨ObLe.refl _,ObLe.refl _,trivial,ObLe.refl _,trivial⟩ ?_
  rintro ⟨l,s1⟩ ⟨i1,i2,i3,m,i4,i5⟩
  simp only at i1 i2 i3 i4 i5 ⊢
  have his:=qIx text s1 w i1.le hl
  have hit:=isP_true (w:=w) i1
  have hif:=isP_false (text:=text) (s:=s1) (w:=w)
  obtain ⟨m,rfl⟩:∃ m',m=m'+1:=⟨m-1,by omega⟩
  rw [qIv] at i5
  generalize isP text s1 w=bs at his hit hif i5
  obtain ⟨b,s2⟩:=bs
  simp only at his hit hif i5
  refine ww ?_
  refine qAd (qAk rfl rfl his [0] (by decide) rfl rfl rfl (lowH_psr 0 _ _) (lowH_psr 0 _ _) rfl rfl) rfl ?_
  refine ww ?_
  refine qAa rfl (fun h2=>?_) (fun h2=>?_)
  ·subst h2
   obtain ⟨j1,j2,j3⟩:=hit rfl
   rw [if_pos rfl] at i5
   have hwl:0 < w.length:=List.length_pos_iff.2 hw
   have hS2:=HS s2 j1 (by omega)
   obtain ⟨q1,q2,q3⟩:=hp.inv s2 j1 (by omega)
   generalize part s2=ps2 at hS2 q1 q2 q3 i5
   obtain ⟨c2,s3⟩:=ps2
   simp only at hS2 q1 q2 q3 i5
   have hf2:=flatC_len kind c2
   have hq1:=q1.le;have hq2:=q1.a
   refine ww ?_
   refine qAd (qAk rfl rfl hS2 [0] (by decide) rfl rfl rfl (lowH_psr 0 _ _) (lowH_psr 0 _ _) (qHf _ _) rfl) rfl ?_
   refine qAd (qCf rfl rfl (qZs kind c2 (by omega)) rfl (by simp [qBl,qSn,low]) rfl) rfl ?_
   refine qAd (qEp (i:=3) hT rfl rfl rfl rfl rfl rfl (by show ((qEc l).length+(qEc (qFy kind c2)).length)*(48+1)≤140737488355328;rw [encCs_length,encCs_length];omega)) rfl ?_
   refine ww ?_
   refine ⟨(l++qFy kind c2,s3),[],⟨q1,by simp only;omega,by simp only [List.length_append];omega,m,by simp only;omega,i5⟩,by simp only;omega,⟨.refl _,.refl _,.refl _,.refl _,.refl _,AV.le.eq ?_,trivial⟩,⟨ObLe.refl _,ObLe.refl _,trivial,?_,trivial⟩,Env.below_mono hE (by simp),rfl,?_⟩
   ·simp only [encCs_append];rfl
   ·exact ⟨rfl,by simp only [encCs_length,List.length_append]⟩
   ·simp only [qCn,vGx,qZc];rfl
  ·subst h2
   rw [if_neg (by simp)] at i5
   have:=hif rfl
   subst this
   refine ww ?_
   refine qAj (r:=cAV (.mk kind 0 0 l)) rfl (AV.le.agg ⟨.refl _,.refl _,.refl _,AV.le.dat,trivial⟩) rfl rfl rfl (lowH_psr _ _ _) ⟨?_,?_⟩
   ·rw [← i5]
   ·rw [← i5];rfl
def vEd:List UInt8:=[97,110,100]
def orW:List UInt8:=[111,114]
def notW:List UInt8:=[110,111,116]
def isW:List UInt8:=[105,115]
def lpW:List UInt8:=[40]
def rpW:List UInt8:=[41]
def ifW:List UInt8:=[105,102]
def scW:List UInt8:=[59]
def qHi (text:List UInt8) (s:PS):Cond×PS :=
 if (isP text (qHx text s chk).2 isW).1 then (.mk 1 (qHx text s chk).1 (qHx text (isP text (qHx text s chk).2 isW).2 vls).1 [],(qHx text (isP text (qHx text s chk).2 isW).2 vls).2)
 else (.mk 1 (qHx text s chk).1 1 [],(isP text (qHx text s chk).2 isW).2)
def qIm (text:List UInt8):Nat→PS→Cond×PS
 | 0,s=>(.mk 0 0 0 [],s)
 | n+1,s =>
  if (isP text s notW).1 then (.mk 2 0 0 [(qIm text n (isP text s notW).2).1],(qIm text n (isP text s notW).2).2)
  else if (isP text (isP text s notW).2 lpW).1 then
   ((qDb text 4 orW (qDb text 3 vEd (qIm text n)) (isP text (isP text s notW).2 lpW).2).1,qHz text (qDb text 4 orW (qDb text 3 vEd (qIm text n)) (isP text (isP text s notW).2 lpW).2).2 rpW)
  else qHi text (isP text (isP text s notW).2 lpW).2
def qXh (text:List UInt8) (n:Nat):PS→Cond×PS:=qDb text 3 vEd (qIm text n)
def qLo (text:List UInt8) (n:Nat):PS→Cond×PS:=qDb text 4 orW (qXh text n)
theorem isP_inv {text:List UInt8} {s:PS} {w:List UInt8} (h:Inv text s):Inv text (isP text s w).2∧s.na≤(isP text s w).2.na:=by
 cases hb:(isP text s w).1 with
 | true=>obtain ⟨h1,h2,_⟩:=isP_true h hb;exact ⟨h1,by omega⟩
 | false=>rw [isP_false hb];exact ⟨h,Nat.le_refl _⟩
theorem isAtomP_ok {text:List UInt8} {s:PS} (h:Inv text s):Inv text (qHi text s).2∧s.na≤(qHi text s).2.na∧qJv (qHi text s).1=0:=by
 obtain ⟨h1,h2⟩:=oneP_inv (l:=chk) h
 obtain ⟨h3,h4⟩:=isP_inv (w:=isW) h1
 unfold qHi
 split
 ·obtain ⟨h5,h6⟩:=oneP_inv (l:=vls) h3
  exact ⟨h5,by simp only;omega,rfl⟩
 ·exact ⟨h3,by simp only;omega,rfl⟩
theorem atomP_ok (text:List UInt8):∀ n,PartOk text n (qIm text n)
 | 0=>⟨fun s _ hn=>by omega⟩
 | n+1=>by
  have ih:=atomP_ok text n
  refine ⟨fun s h hn=>?_⟩
  unfold qIm
  cases h1:(isP text s notW).1 with
  | true =>
   rw [if_pos rfl]
   obtain ⟨k1,k2,k3⟩:=isP_true h h1
   have:notW.length=3:=rfl
   obtain ⟨q1,q2,q3⟩:=ih.inv _ k1 (by omega)
   exact ⟨q1,by simp only;omega,by simp only [qJv,List.length_cons,List.length_nil];omega⟩
  | false =>
   rw [if_neg (by simp),isP_false h1]
   cases h2:(isP text s lpW).1 with
   | true =>
    rw [if_pos rfl]
    obtain ⟨k1,k2,k3⟩:=isP_true h h2
    have:lpW.length=1:=rfl
    obtain ⟨q1,q2,q3⟩:=(seriesP_ok (seriesP_ok ih 3 (w:=vEd) (by decide)) 4 (w:=orW) (by decide)).inv _ k1 (by omega)
    obtain ⟨r1,r2⟩:=needP_inv (w:=rpW) q1
    exact ⟨r1,by simp only;omega,by simp only;omega⟩
   | false =>
    rw [if_neg (by simp),isP_false h2]
    obtain ⟨q1,q2,q3⟩:=isAtomP_ok h
    exact ⟨q1,q2,by omega⟩
theorem conjP_ok (text:List UInt8) (n:Nat):PartOk text n (qXh text n):=seriesP_ok (atomP_ok text n) 3 (by decide)
theorem condP_ok (text:List UInt8) (n:Nat):PartOk text n (qLo text n):=seriesP_ok (conjP_ok text n) 4 (by decide)
set_option maxRecDepth 100000 in
theorem qQf {text:List UInt8} {n:Nat} (hl:text.length≤1000000) (HS:PartSpec text n 538 (qIm text n)):PartSpec text n 445 (qXh text n):=by
 intro s h hn
 have hs:=qKu hl (atomP_ok text n) HS 3 (w:=vEd) (by decide) s h hn
 unfold qXh
 generalize qDb text 3 vEd (qIm text n) s=r at hs ⊢
 obtain ⟨⟨k,c,v,kids⟩,s'⟩:=r
 refine qAb hT Tryz.func445 rfl rfl rfl rfl ?_
 intro E hE
 refine ww ?_
 refine qAd (qAk rfl rfl hs [0] (by decide) rfl rfl rfl (lowH_psr 0 _ _) (lowH_psr 0 _ _) (qHf _ _) rfl) rfl ?_
 refine ww ?_
 exact qAj rfl (.refl _) rfl rfl rfl (lowH_psr _ _ _) ⟨rfl,rfl⟩
set_option maxRecDepth 100000 in
theorem qQg {text:List UInt8} {n:Nat} (hl:text.length≤1000000) (HS:PartSpec text n 445 (qXh text n)):PartSpec text n 321 (qLo text n):=by
 intro s h hn
 have hs:=qKu hl (conjP_ok text n) HS 4 (w:=orW) (by decide) s h hn
 unfold qLo
 generalize qDb text 4 orW (qXh text n) s=r at hs ⊢
 obtain ⟨⟨k,c,v,kids⟩,s'⟩:=r
 refine qAb hT Tryz.func321 rfl rfl rfl rfl ?_
 intro E hE
 refine ww ?_
 refine qAd (qAk rfl rfl hs [0] (by decide) rfl rfl rfl (lowH_psr 0 _ _) (lowH_psr 0 _ _) (qHf _ _) rfl) rfl ?_
 refine ww ?_
 exact qAj rfl (.refl _) rfl rfl rfl (lowH_psr _ _ _) ⟨rfl,rfl⟩
set_option maxRecDepth 100000 in
theorem qQo {text:List UInt8} (hl:text.length≤1000000):∀ n,PartSpec text n 538 (qIm text n)
 | 0=>fun s _ hn=>by omega
 | n+1=>by
  have ih:=qQo hl n
  have hc:=qQg hl (qQf hl ih)
  intro s h hn
  have his1:=qIx text s notW h.le hl
  unfold qIm
  cases h1:(isP text s notW).1 with
  | true =>
   rw [if_pos rfl]
   obtain ⟨k1,k2,k3⟩:=isP_true h h1
   have:notW.length=3:=rfl
   have hS:=ih _ k1 (by omega)
   rw [h1] at his1
   generalize (isP text s notW).2=s1 at his1 hS ⊢
   generalize qIm text n s1=r at hS ⊢
   obtain ⟨⟨k,c,v,kids⟩,s2⟩:=r
   refine qAb hT Tryz.func538 rfl rfl rfl rfl ?_
   intro E hE
   refine ww ?_
   refine qAd (qAk rfl rfl his1 [0] (by decide) rfl rfl rfl (lowH_psr 0 _ _) (lowH_psr 0 _ _) rfl rfl) rfl ?_
   refine ww ?_
   refine qAa rfl (fun _=>?_) (fun hf=>by cases hf)
   refine ww ?_
   refine qAd (qAk rfl rfl hS [0] (by decide) rfl rfl rfl (lowH_psr 0 _ _) (lowH_psr 0 _ _) (qHf _ _) rfl) rfl ?_
   refine ww ?_
   exact qAj (r:=cAV (.mk 2 0 0 [.mk k c v kids])) rfl (AV.le.agg ⟨.refl _,.refl _,.refl _,AV.le.dat,trivial⟩) rfl rfl rfl (lowH_psr _ _ _) ⟨rfl,rfl⟩
  | false =>
   rw [if_neg (by simp)]
   have hs1:=isP_false h1
   rw [hs1]
   rw [h1,hs1] at his1
   have his2:=qIx text s lpW h.le hl
   cases h2:(isP text s lpW).1 with
   | true =>
    rw [if_pos rfl]
    obtain ⟨k1,k2,k3⟩:=isP_true h h2
    have:lpW.length=1:=rfl
    have hS:=hc _ k1 (by omega)
    rw [h2] at his2
    obtain ⟨q1,q2,q3⟩:=(condP_ok text n).inv _ k1 (by omega)
    have hneed:=qLe text (qLo text n (isP text s lpW).2).2 rpW q1.le hl
    show Spec _ _ _ _ (fun r h'=>r=cAV (qLo text n (isP text s lpW).2).1∧h'=[.row (psr text (qHz text (qLo text n (isP text s lpW).2).2 rpW))])
    generalize (isP text s lpW).2=s1 at his2 hS hneed ⊢
    generalize qLo text n s1=r at hS hneed ⊢
    obtain ⟨⟨k,c,v,kids⟩,s2⟩:=r
    simp only at hS hneed ⊢
    generalize qHz text s2 rpW=s3 at hneed ⊢
    refine qAb hT Tryz.func538 rfl rfl rfl rfl ?_
    intro E hE
    refine ww ?_
    refine qAd (qAk rfl rfl his1 [0] (by decide) rfl rfl rfl (lowH_psr 0 _ _) (lowH_psr 0 _ _) rfl rfl) rfl ?_
    refine ww ?_
    refine qAa rfl (fun hf=>by cases hf) (fun _=>?_)
    refine ww ?_
    refine qAd (qAk rfl rfl his2 [0] (by decide) rfl rfl rfl (lowH_psr 0 _ _) (lowH_psr 0 _ _) rfl rfl) rfl ?_
    refine ww ?_
    refine qAa rfl (fun _=>?_) (fun hf=>by cases hf)
    refine ww ?_
    refine qAd (qAk rfl rfl hS [0] (by decide) rfl rfl rfl (lowH_psr 0 _ _) (lowH_psr 0 _ _) (qHf _ _) rfl) rfl ?_
    refine ww ?_
    refine qAd (qAk rfl rfl hneed [0] (by decide) rfl rfl rfl (lowH_psr 0 _ _) (lowH_psr 0 _ _) rfl rfl) rfl ?_
    refine ww ?_
    exact qAj rfl (.refl _) rfl rfl rfl (lowH_psr _ _ _) ⟨rfl,rfl⟩
   | false =>
    rw [if_neg (by simp)]
    have hs2:=isP_false h2
    rw [hs2]
    rw [h2,hs2] at his2
    have hone:=qNp text s chk h.le hl (by decide)
    obtain ⟨q1,q2⟩:=oneP_inv (l:=chk) h
    unfold qHi
    generalize qHx text s chk=r1 at hone q1 q2 ⊢
    obtain ⟨n1,s1⟩:=r1
    simp only at hone q1 q2 ⊢
    have his3:=qIx text s1 isW q1.le hl
    obtain ⟨j1,j2⟩:=isP_inv (w:=isW) q1
    generalize isP text s1 isW=r2 at his3 j1 j2 ⊢
    obtain ⟨b2,s2⟩:=r2
    simp only at his3 j1 j2 ⊢
    have hone2:=qNp text s2 vls j1.le hl (by decide)
    generalize qHx text s2 vls=r3 at hone2 ⊢
    obtain ⟨n3,s3⟩:=r3
    simp only at hone2 ⊢
    refine qAb hT Tryz.func538 rfl rfl rfl rfl ?_
    intro E hE
    refine ww ?_
    refine qAd (qAk rfl rfl his1 [0] (by decide) rfl rfl rfl (lowH_psr 0 _ _) (lowH_psr 0 _ _) rfl rfl) rfl ?_
    refine ww ?_
    refine qAa rfl (fun hf=>by cases hf) (fun _=>?_)
    refine ww ?_
    refine qAd (qAk rfl rfl his2 [0] (by decide) rfl rfl rfl (lowH_psr 0 _ _) (lowH_psr 0 _ _) rfl rfl) rfl ?_
    refine ww ?_
    refine qAa rfl (fun hf=>by cases hf) (fun _=>?_)
    refine ww ?_
    refine qAd (qCf rfl rfl qUs rfl rfl rfl) rfl ?_
    refine qAd (qAk rfl rfl hone [0] (by decide) rfl rfl rfl (lowH_psr 0 _ _) (lowH_psr 0 _ _) rfl rfl) rfl ?_
    refine ww ?_
    refine qAd (qAk rfl rfl his3 [0] (by decide) rfl rfl rfl (lowH_psr 0 _ _) (lowH_psr 0 _ _) rfl rfl) rfl ?_
    refine ww ?_
    refine qAa rfl (fun hb=>?_) (fun hb=>?_)
    ·subst hb
     rw [if_pos rfl]
     refine ww ?_
     refine qAd (qCf rfl rfl qTh rfl rfl rfl) rfl ?_
     refine qAd (qAk rfl rfl hone2 [0] (by decide) rfl rfl rfl (lowH_psr 0 _ _) (lowH_psr 0 _ _) rfl rfl) rfl ?_
     refine ww ?_
     exact qAj (r:=cAV (.mk 1 n1 n3 [])) rfl (AV.le.agg ⟨.refl _,.refl _,.refl _,AV.le.dat,trivial⟩) rfl rfl rfl (lowH_psr _ _ _) ⟨rfl,rfl⟩
    ·subst hb
     rw [if_neg (by simp)]
     refine ww ?_
     exact qAj (r:=cAV (.mk 1 n1 1 [])) rfl (AV.le.agg ⟨.refl _,.refl _,.refl _,AV.le.dat,trivial⟩) rfl rfl rfl (lowH_psr _ _ _) ⟨rfl,rfl⟩
mutual
def qJe:Cond→Prop
 | .mk _ _ _ kids=>kids.length≤1000000000∧qFk kids
def qFk:List Cond→Prop
 | []=>True
 | a::l=>qJe a∧qFk l
end
theorem smallCs_at:∀ {l:List Cond},qFk l→∀ c,c∈l→qJe c
 | [],_,c,hc=>by cases hc
 | a::l,h,c,hc=>by
  cases hc with
  | head=>exact h.1
  | tail _ hc=>exact smallCs_at h.2 c hc
theorem smallCs_append:∀ {a b:List Cond},qFk a→qFk b→qFk (a++b)
 | [],_,_,h=>h
 | x::a,b,h1,h2=>⟨h1.1,smallCs_append h1.2 h2⟩
def qZv {α:Type} (p:α→Bool) (l:List α):Int:=match l.findIdx? p with
 | some i=>i
 | none=>-1
theorem fIdx_at {α:Type} {p:α→Bool} {l:List α} {k:Nat} (hk:k < l.length) (h:p l[k]=true) (hb:∀ j,(hj:j < k)→(hj2:j < l.length)→p l[j]=false):qZv p l=k:=by
 unfold qZv
 have:l.findIdx? p=some k:=by
  rw [List.findIdx?_eq_some_iff_getElem]
  exact ⟨hk,h,fun j hj=>by simpa using hb j hj (by omega)⟩
 rw [this]
theorem fIdx_none {α:Type} {p:α→Bool} {l:List α} (hb:∀ j,(hj:j < l.length)→p l[j]=false):qZv p l = -1:=by
 unfold qZv
 have:l.findIdx? p=none:=by
  rw [List.findIdx?_eq_none_iff]
  intro x hx
  obtain ⟨j,hj,rfl⟩:=List.mem_iff_getElem.1 hx
  simpa using hb j hj
 rw [this]
theorem fIdx_any {α:Type} (p:α→Bool) (l:List α):decide (qZv p l≥0)=l.any p:=by
 unfold qZv
 split
 ·rename_i i h
  obtain ⟨h1,h2,_⟩:=List.findIdx?_eq_some_iff_getElem.1 h
  have:l.any p=true:=List.any_eq_true.2 ⟨_,List.getElem_mem h1,h2⟩
  rw [this];simp
 ·rename_i h
  rw [List.findIdx?_eq_none_iff] at h
  have:l.any p=false:=by rw [List.any_eq_false];intro x hx;simpa using h x hx
  rw [this];decide
def PredC (g:FuncId) (first cap:List AV) (H:List AObj) (p:Cond→Bool) (l:List Cond):Prop :=
 ∀ c,c∈l→Spec Tryz.prog g (first++([cAV c]++cap)) H (fun r h'=>r=.d (.bool (p c))∧h'=H)
set_option maxRecDepth 100000 in
theorem qLv {kids:List Cond} {g:FuncId} {first cap:List AV} {H:List AObj} {p:Cond→Bool} (hp:PredC g first cap H p kids) (hH:qCn H.length H=true) (h1:qBl H.length first=true) (h2:qBl H.length cap=true) (hl:kids.length≤1000000000) :
  Spec Tryz.prog 539 [.d (.sl 4 (qEc kids)),.fn (.func g) first cap] H (fun r h'=>r=.I (qZv p kids)∧h'=H):=by
 refine qAb hT Tryz.func539 rfl rfl rfl rfl ?_
 intro E hE
 have hlen:=encCs_length kids
 refine ww ?_
 refine qAn (ι:=Nat) (fun k=>[(0,.d (.sl 4 (qEc kids))),(1,.fn (.func g) first cap),(7,.d (.int .i64 (qEc kids).length)),(8,.I k)]) (fun _=>H) (fun k=>k≤kids.length∧∀ j,(hj:j < k)→(hj2:j < kids.length)→p kids[j]=false) (fun k=>kids.length-k) 0
  ⟨by omega,fun j hj=>by omega⟩ yf (HLe.refl _) ?_
 intro k ⟨hk,hb⟩
 refine ww ?_
 refine qAa rfl (fun h1'=>?_) (fun h1'=>?_)
 ·have hlt:k < kids.length:=by rw [hlen] at h1';simpa using h1'
  have hel:(qEc kids)[((k:Int)).toNat]?=some (vFu kids[k]):=by simp [encCs_eq,hlt]
  have hpk:=hp kids[k] (List.getElem_mem hlt)
  generalize hc:kids[k]=c at hel hpk
  obtain ⟨ck,cc,cv,ckids⟩:=c
  refine ww ?_
  refine qAd (qAe (indexAddr_ok hT rfl rfl rfl rfl (by omega) hel)) rfl ?_
  refine ww ?_
  refine qDx (qWb (Q:=fun r h'=>r=.d (.bool (p (.mk ck cc cv ckids)))∧h'=H) rfl rfl (hpk.mono (fun r h' ⟨q1,q2⟩=>⟨⟨q1,q2⟩,by rw [q1];rfl,by rw [q2];exact hH⟩)) hH rfl ?_) rfl ?_
  ·have:∀ (a b:List AV),qBl H.length a=true→qBl H.length b=true→qBl H.length (a++b)=true:=by
    intro a
    induction a with
    | nil=>intro b _ hb;exact hb
    | cons x a ih=>intro b ha hb;simp only [qBl,Bool.and_eq_true,List.cons_append] at ha ⊢;exact ⟨ha.1,ih b ha.2 hb⟩
   exact this _ _ h1 (this [_] _ (by simp [qBl,qSn]) h2)
  rintro v h' ⟨rfl,rfl⟩
  refine ww ?_
  refine qAa rfl (fun h2'=>?_) (fun h2'=>?_)
  ·refine ww ?_
   refine qAj rfl (.refl _) (by simp) rfl rfl hH ⟨?_,rfl⟩
   show AV.d (.int .i64 (k:Int))=_
   rw [fIdx_at hlt (by rw [hc];exact h2') (fun j hj hj2=>hb j hj hj2)]
  ·refine ww ?_
   refine ⟨k+1,⟨by omega,fun j hj hj2=>?_⟩,by omega,⟨.refl _,.refl _,.refl _,AV.le.eq ?_,trivial⟩,HLe.refl _⟩
   ·by_cases hjk:j=k
    ·subst hjk;rw [hc];exact h2'
    ·exact hb j (by omega) hj2
   ·show AV.d (.int .i64 (IntKind.i64.wrap ((k:Int)+1)))=_
    rw [qAh (by omega)];rfl
 ·have hge:k=kids.length:=by rw [hlen] at h1';simp at h1';omega
  refine ww ?_
  refine qAj rfl (.refl _) (by simp) rfl rfl hH ⟨?_,rfl⟩
  show AV.d (.int .i64 (-1))=_
  rw [fIdx_none (fun j hj=>hb j (by omega) hj)]
set_option maxRecDepth 100000 in
theorem qEr {kids:List Cond} {g:FuncId} {first cap:List AV} {H:List AObj} {p:Cond→Bool} (hp:PredC g first cap H p kids) (hH:qCn H.length H=true) (h1:qBl H.length first=true) (h2:qBl H.length cap=true) (hl:kids.length≤1000000000) :
  Spec Tryz.prog 446 [.d (.sl 4 (qEc kids)),.fn (.func g) first cap] H (fun r h'=>r=.d (.bool (kids.any p))∧h'=H):=by
 refine qAb hT Tryz.func446 rfl rfl rfl rfl ?_
 intro E hE
 have hs:=qLv hp hH h1 h2 hl
 refine ww ?_
 refine qDx (qWb (Q:=fun r h'=>r=.I (qZv p kids)∧h'=H) rfl rfl (hs.mono (fun r h' ⟨q1,q2⟩=>⟨⟨q1,q2⟩,by rw [q1];rfl,by rw [q2];exact hH⟩)) hH rfl ?_) rfl ?_
 ·simp [qBl,low,h1,h2]
 rintro v h' ⟨rfl,rfl⟩
 refine ww ?_
 refine qAj rfl (.refl _) (by simp) rfl rfl hH ⟨?_,rfl⟩
 show AV.d (.bool (decide (qZv p kids≥0)))=_
 rw [fIdx_any]
def vCl:Cond→Int
 | .mk k _ _ _=>k
def qDo:Nat→Cond→Bool
 | 0,_=>false
 | d+1,.mk k c v kids =>
  if k=1 then decide (1≤c)&&decide (c≤13)&&decide (1≤v)&&decide (v≤4)&&decide (kids.length=0)
  else if c≠0∨v≠0 then false
  else if k=2 then decide (kids.length=1)&&!(kids.any fun x=>!qDo d x)
  else if k=3∨k=4 then !(decide (kids.length < 2)||kids.any fun x=>vCl x == k)&&!(kids.any fun x=>!qDo d x)
  else false
set_option maxRecDepth 100000 in
theorem qRt (c x:Cond):Spec Tryz.prog 447 ([]++([cAV x]++[.ptr 0 0])) [.row ((vFu c).map .d)] (fun r h'=>r=.d (.bool (vCl x == vCl c))∧h'=[.row ((vFu c).map .d)]):=by
 obtain ⟨k,cc,cv,kids⟩:=c
 obtain ⟨k2,cc2,cv2,kids2⟩:=x
 refine qAb hT Tryz.func447 rfl rfl rfl rfl ?_
 intro E hE
 refine ww ?_
 exact qAj rfl (.refl _) rfl rfl rfl rfl ⟨rfl,rfl⟩
set_option maxRecDepth 100000 in
theorem qMq:∀ (d:Nat) (c:Cond),d≤1000→qJe c→Spec Tryz.prog 323 [cAV c,.I d] [] (fun r h'=>r=.d (.bool (qDo d c))∧h'=[])
 | 0,.mk k c v kids,hd,hs=>by
  refine qAb hT Tryz.func323 rfl rfl rfl rfl ?_
  intro E hE
  refine ww ?_
  refine qAa rfl (fun _=>?_) (fun hf=>by simp at hf)
  refine ww ?_
  exact qAj rfl (.refl _) rfl rfl rfl rfl ⟨rfl,rfl⟩
 | d+1,.mk k c v kids,hd,hs=>by
  have h2:∀ x,x∈kids→Spec Tryz.prog 448 ([]++([cAV x]++[.ptr 0 0])) [.row [.I ((d+1:Nat):Int)]] (fun r h'=>r=.d (.bool (!qDo d x))∧h'=[.row [.I ((d+1:Nat):Int)]]):=by
   intro x hx
   have ih:=qMq d x (by omega) (smallCs_at hs.2 x hx)
   obtain ⟨k2,cc2,cv2,kids2⟩:=x
   refine qAb hT Tryz.func448 rfl rfl rfl rfl ?_
   intro E hE
   have hw:IntKind.i64.wrap (((d+1:Nat):Int)-1)=(d:Int):=by rw [qAh (by omega)];omega
   refine ww ?_
   rw [hw]
   refine qAd (qCf rfl rfl ih rfl rfl rfl) rfl ?_
   refine ww ?_
   exact qAj rfl (.refl _) rfl rfl rfl rfl ⟨rfl,rfl⟩
  have c1:=qEr (p:=fun x=>vCl x == k) (kids:=kids) (fun x hx=>qRt (.mk k c v kids) x) rfl rfl rfl hs.1
  have c2:=qEr (p:=fun x=>!qDo d x) h2 rfl rfl rfl hs.1
  refine qAb hT Tryz.func323 rfl rfl rfl rfl ?_
  intro E hE
  have hlen:=encCs_length kids
  refine ww ?_
  have hz0:(((qEc kids).length:Int) == 0)=decide (kids.length=0):=by rw [hlen,Bool.eq_iff_iff];simp
  refine qAa rfl (fun hf=>by simp at hf;omega) (fun _=>?_)
  refine ww ?_
  refine qAa rfl (fun hk=>?_) (fun hk=>?_)
  ·have hk':k=1:=by simpa using hk
   refine ww ?_
   refine qAj rfl (.refl _) rfl rfl rfl rfl ⟨congrArg (fun b=>AV.d (.bool b)) ?_,rfl⟩
   rw [qDo,if_pos hk',← hz0]
  ·have hk1:¬ k=1:=by simpa using hk
   refine ww ?_
   refine qAa rfl (fun hz=>?_) (fun hz=>?_)
   ·have hz':c≠0∨v≠0:=by simpa using hz
    refine ww ?_
    refine qAj rfl (.refl _) rfl rfl rfl rfl ⟨congrArg (fun b=>AV.d (.bool b)) ?_,rfl⟩
    rw [qDo,if_neg hk1,if_pos hz']
   ·have hz':¬ (c≠0∨v≠0):=by simpa using hz
    refine ww ?_
    refine qAa rfl (fun h3=>?_) (fun h3=>?_)
    ·have hk2:k=2:=by simpa using h3
     refine ww ?_
     refine qAa rfl (fun h4=>?_) (fun h4=>?_)
     ·have h4':¬ kids.length=1:=by rw [hlen] at h4;simp at h4;omega
      refine ww ?_
      refine qAj rfl (.refl _) rfl rfl rfl rfl ⟨congrArg (fun b=>AV.d (.bool b)) ?_,rfl⟩
      rw [qDo,if_neg hk1,if_neg hz',if_pos hk2];simp [h4']
     ·have h4':kids.length=1:=by rw [hlen] at h4;simp at h4;omega
      refine ww ?_
      refine qAd (qAk rfl rfl c2 [1] (by decide) rfl rfl rfl rfl rfl rfl rfl) rfl ?_
      refine ww ?_
      refine qAj rfl (.refl _) rfl rfl rfl rfl ⟨congrArg (fun b=>AV.d (.bool b)) ?_,rfl⟩
      rw [qDo,if_neg hk1,if_neg hz',if_pos hk2];simp [h4']
    ·have hk2:¬ k=2:=by simpa using h3
     have hl2:decide (((qEc kids).length:Int) < 2)=decide (kids.length < 2):=by rw [hlen,Bool.eq_iff_iff];simp;omega
     refine ww ?_
     by_cases hk3:k=3
     ·have hk34:k=3∨k=4:=.inl hk3
      refine qAa rfl (fun _=>?_) (fun hf=>by simp [hk3] at hf)
      refine ww ?_
      refine qAa rfl (fun _=>?_) (fun hf=>by simp [hk3] at hf)
      refine ww ?_
      refine qCd rfl rfl rfl (fun hg=>⟨by first | exact True.intro | exact ⟨hg,hg,True.intro⟩,qAk rfl rfl c1 [0] (by decide) rfl rfl rfl rfl rfl rfl rfl⟩) ?_
      refine ww ?_
      refine qAa rfl (fun h5=>?_) (fun h5=>?_)
      ·refine ww ?_
       refine qAj rfl (.refl _) rfl rfl rfl rfl ⟨congrArg (fun b=>AV.d (.bool b)) ?_,rfl⟩
       rw [qDo,if_neg hk1,if_neg hz',if_neg hk2,if_pos hk34,← hl2,h5];rfl
      ·refine ww ?_
       refine qAd (qAk rfl rfl c2 [1] (by decide) rfl rfl rfl rfl rfl rfl rfl) rfl ?_
       refine ww ?_
       refine qAj rfl (.refl _) rfl rfl rfl rfl ⟨congrArg (fun b=>AV.d (.bool b)) ?_,rfl⟩
       rw [qDo,if_neg hk1,if_neg hz',if_neg hk2,if_pos hk34,← hl2,h5];rfl
     ·refine qAa rfl (fun hf=>by simp at hf;exact absurd hf hk3) (fun _=>?_)
      refine ww ?_
      refine qAa rfl (fun h4=>?_) (fun h4=>?_)
      ·have hk34:k=3∨k=4:=.inr (by simpa using h4)
       refine ww ?_
       refine qCd rfl rfl rfl (fun hg=>⟨by first | exact True.intro | exact ⟨hg,hg,True.intro⟩,qAk rfl rfl c1 [0] (by decide) rfl rfl rfl rfl rfl rfl rfl⟩) ?_
       refine ww ?_
       refine qAa rfl (fun h5=>?_) (fun h5=>?_)
       ·refine ww ?_
        refine qAj rfl (.refl _) rfl rfl rfl rfl ⟨congrArg (fun b=>AV.d (.bool b)) ?_,rfl⟩
        rw [qDo,if_neg hk1,if_neg hz',if_neg hk2,if_pos hk34,← hl2,h5];rfl
       ·refine ww ?_
        refine qAd (qAk rfl rfl c2 [1] (by decide) rfl rfl rfl rfl rfl rfl rfl) rfl ?_
        refine ww ?_
        refine qAj rfl (.refl _) rfl rfl rfl rfl ⟨congrArg (fun b=>AV.d (.bool b)) ?_,rfl⟩
        rw [qDo,if_neg hk1,if_neg hz',if_neg hk2,if_pos hk34,← hl2,h5];rfl
      ·have hk34:¬ (k=3∨k=4):=by simp at h4;omega
       refine ww ?_
       refine qAj rfl (.refl _) rfl rfl rfl rfl ⟨congrArg (fun b=>AV.d (.bool b)) ?_,rfl⟩
       rw [qDo,if_neg hk1,if_neg hz',if_neg hk2,if_neg hk34]
def qBb (s:List UInt8):List (List Dat):=s.map fun b=>[.int .u8 (b.toNat:Int)]
theorem encB_length (s:List UInt8):(qBb s).length=s.length:=by simp [qBb]
theorem encB_append (a b:List UInt8):qBb (a++b)=qBb a++qBb b:=by simp [qBb]
theorem encB_at {s:List UInt8} {i:Nat} (h:i < s.length):(qBb s)[i]?=some [.int .u8 (s[i].toNat:Int)]:=by simp [qBb,h]
theorem encB_take (s:List UInt8) (i:Nat):(qBb s).take i=qBb (s.take i):=by simp [qBb,List.map_take]
theorem encB_drop (s:List UInt8) (i:Nat):(qBb s).drop i=qBb (s.drop i):=by simp [qBb,List.map_drop]
inductive Node where
 | mk (tag:Int) (val:List UInt8) (kids:List Node)
mutual
def vFt:Node→List Dat
 | .mk t v k=>[.int .i64 t,.sl 1 (qBb v),.sl 3 (encNs k)]
def encNs:List Node→List (List Dat)
 | []=>[]
 | a::l=>vFt a::encNs l
end
def nAV (n:Node):AV:=.agg ((vFt n).map .d)
theorem encNs_eq:∀ (l:List Node),encNs l=l.map vFt
 | []=>rfl
 | a::l=>by simp [encNs,encNs_eq l]
theorem encNs_length (l:List Node):(encNs l).length=l.length:=by rw [encNs_eq];simp
def qIp (t:Int):Bool :=
 if t < 256 then decide (0 < t)&&!(t % 32 == 31) else decide (t < 65536)&&(t / 256 % 32 == 31)&&decide (1≤t % 256)&&decide (t % 256≤127)
def qEg (t:Int):Bool:=qIp t&&((if t > 255 then t / 256 else t) / 32 % 2 == 1)
theorem tagOk_range {t:Int} (h:qIp t=true):0 < t∧t < 65536:=by
 unfold qIp at h
 split at h
 ·simp at h;omega
 ·simp at h;omega
mutual
def qMn (d:Nat):Node→Nat→Int×Nat
 | .mk t v k,c =>
  if qIp t=false then (4,c+1)
  else if (qEg t=false∧k≠[])∨(qEg t=true∧v≠[]) then (1,c+1)
  else if 8 < d then (7,c+1)
  else qIz (d+1) k (c+1)
def qIz (d:Nat):List Node→Nat→Int×Nat
 | [],c=>(0,c)
 | a::l,c=>if (qMn d a c).1=0 then qIz d l (qMn d a c).2 else qMn d a c
end
mutual
def qKs:Node→Nat
 | .mk _ _ k=>1+qDj k
def qDj:List Node→Nat
 | []=>0
 | a::l=>qKs a+qDj l
end
mutual
theorem chkN_count (d:Nat):∀ (n:Node) (c:Nat),(qMn d n c).2≤c+qKs n∧((qMn d n c).1=0→(qMn d n c).2=c+qKs n)
 | .mk t v k,c=>by
  have hk:=chkL_count (d+1) k (c+1)
  rw [qMn,qKs]
  split
  ·exact ⟨by simp only;omega,fun h=>by simp at h⟩
  ·split
   ·exact ⟨by simp only;omega,fun h=>by simp at h⟩
   ·split
    ·exact ⟨by simp only;omega,fun h=>by simp at h⟩
    ·exact ⟨by omega,fun h=>by have:=hk.2 h;omega⟩
theorem chkL_count (d:Nat):∀ (l:List Node) (c:Nat),(qIz d l c).2≤c+qDj l∧((qIz d l c).1=0→(qIz d l c).2=c+qDj l)
 | [],c=>by simp [qIz,qDj]
 | a::l,c=>by
  have ha:=chkN_count d a c
  have hl:=chkL_count d l (qMn d a c).2
  rw [qIz,qDj]
  split
  ·rename_i h0
   have:=ha.2 h0
   exact ⟨by omega,fun h=>by have:=hl.2 h;omega⟩
  ·rename_i h0
   exact ⟨by omega,fun h=>absurd h h0⟩
end
def vCt:Nat→Nat→List UInt8
 | 0,_=>[]
 | m+1,n=>if n=0 then [] else UInt8.ofNat (n % 256)::vCt m (n / 256)
theorem digL_zero (m:Nat):vCt m 0=[]:=by cases m <;> simp [vCt]
theorem digL_length:∀ (m n:Nat),(vCt m n).length≤m
 | 0,_=>Nat.le_refl _
 | m+1,n=>by
  rw [vCt]
  split
  ·simp
  ·have:=digL_length m (n / 256);simp;omega
def digs (m n:Nat):List UInt8:=(vCt m n).reverse
def qSp (n:Nat):List UInt8:=if n < 128 then [UInt8.ofNat n] else UInt8.ofNat (128+(digs 8 n).length)::digs 8 n
def vGt (t:Int):List UInt8:=if t > 255 then [UInt8.ofNat (t / 256 % 256).toNat,UInt8.ofNat (t % 256).toNat] else [UInt8.ofNat (t % 256).toNat]
mutual
def wrN:Node→List UInt8
 | .mk t v k=>vGt t++qSp (if qEg t=true then wrL k else v).length++(if qEg t=true then wrL k else v)
def wrL:List Node→List UInt8
 | []=>[]
 | a::l=>wrN a++wrL l
end
def qLl (l:List Node):List UInt8×Int :=
 if (qIz 1 l 0).1≠0 then ([],(qIz 1 l 0).1)
 else if (qIz 1 l 0).2 > 256 then ([],2)
 else if (wrL l).length > 4096 then ([],2)
 else (wrL l,0)
def bI (c:UInt8):Int:=(c.toNat:Int)
def qZm (c:UInt8):Bool:=decide (65≤bI c∧bI c≤90)
theorem vJg (k:Nat) {n m:Nat} (hn:n < 9223372036854775808) (hm:m < 9223372036854775808) {q:Int} (hq:q=(m:Int)) :
  IntKind.i64.wrap ((BitVec.ofInt IntKind.i64.bits (n:Int) &&& BitVec.ofInt IntKind.i64.bits q).toNat:Int)=((n &&& m:Nat):Int):=by
 subst hq;exact qTf hn hm
set_option maxRecDepth 100000 in
theorem qPn (t:Int) (h0:0≤t) (h1:t≤9223372036854775807):Spec Tryz.prog 561 [.I t] [] (fun r h'=>r=.d (.bool (t % 32 == 31))∧h'=[]):=by
 obtain ⟨n,rfl⟩:=Int.eq_ofNat_of_zero_le h0
 have hand:=vJg 0 (n:=n) (m:=31) (q:=31) (by omega) (by omega) rfl
 have hm:=qVn n 5
 have e:((n:Int) % 32 == 31)=(IntKind.i64.wrap ((BitVec.ofInt IntKind.i64.bits (n:Int) &&& BitVec.ofInt IntKind.i64.bits 31).toNat:Int) == 31):=by
  rw [hand,show n &&& 31=n % 32 from hm];rfl
 rw [e]
 refine qAb hT Tryz.func561 rfl rfl rfl rfl ?_
 intro E hE
 refine ww ?_
 exact qAj rfl (.refl _) rfl rfl rfl rfl ⟨rfl,rfl⟩
set_option maxHeartbeats 2000000 in
set_option maxRecDepth 100000 in
theorem qNc (t:Int) (hw : -9223372036854775808≤t∧t≤9223372036854775807):Spec Tryz.prog 488 [.I t] [] (fun r h'=>r=.d (.bool (qIp t))∧h'=[]):=by
 refine qAb hT Tryz.func488 rfl rfl rfl rfl ?_
 intro E hE
 refine ww ?_
 refine qAa rfl (fun h1=>?_) (fun h1=>?_)
 ·have h1':t < 256:=by simpa using h1
  have hl:=fun (h:0≤t)=>qPn t h (by omega)
  refine ww ?_
  refine qCd rfl rfl rfl (fun hg=>⟨by first | exact True.intro | exact ⟨hg,True.intro⟩ | exact ⟨hg,hg,True.intro⟩,qCf rfl rfl (hl (by simp [gval] at hg;omega)) rfl rfl rfl⟩) ?_
  refine ww ?_
  refine qAj rfl (.refl _) rfl rfl rfl rfl ⟨congrArg (fun b=>AV.d (.bool b)) ?_,rfl⟩
  unfold qIp
  rw [if_pos h1']
 ·have h1':¬ t < 256:=by simpa using h1
  obtain ⟨n,rfl⟩:=Int.eq_ofNat_of_zero_le (show 0≤t by omega)
  have hshr:Int.fdiv (n:Int) (2 ^ (min (8:Int).toNat IntKind.i64.bits))=((n / 256:Nat):Int):=qDt n 8
  have hand:=vJg 0 (n:=n) (m:=255) (q:=255) (by omega) (by omega) rfl
  rw [show n &&& 255=n % 256 from qVn n 8] at hand
  have hl:=qPn ((n / 256:Nat):Int) (by omega) (by omega)
  rw [← hshr] at hl
  refine ww ?_
  refine qCd rfl rfl rfl (fun hg=>⟨by first | exact True.intro | exact ⟨hg,True.intro⟩ | exact ⟨hg,hg,True.intro⟩,qCf rfl rfl hl rfl rfl rfl⟩) ?_
  refine ww ?_
  refine qAj rfl (.refl _) rfl rfl rfl rfl ⟨congrArg (fun b=>AV.d (.bool b)) ?_,rfl⟩
  rw [hshr,hand]
  unfold qIp
  rw [if_neg h1',Bool.eq_iff_iff]
  simp
  omega
set_option maxHeartbeats 2000000 in
set_option maxRecDepth 100000 in
theorem qFx (t:Int) (hw : -9223372036854775808≤t∧t≤9223372036854775807):Spec Tryz.prog 487 [.I t] [] (fun r h'=>r=.d (.bool (qEg t))∧h'=[]):=by
 have hv:=qNc t hw
 refine qAb hT Tryz.func487 rfl rfl rfl rfl ?_
 intro E hE
 unfold qEg
 have hr:=tagOk_range (t:=t)
 generalize qIp t=ok at hv hr
 refine ww ?_
 refine qAd (qCf rfl rfl hv rfl rfl rfl) rfl ?_
 refine ww ?_
 refine qAa rfl (fun h1=>?_) (fun h1=>?_)
 ·have h1':ok=false:=by simpa using h1
  subst h1'
  refine ww ?_
  exact qAj rfl (.refl _) rfl rfl rfl rfl ⟨rfl,rfl⟩
 ·have h1':ok=true:=by simpa using h1
  obtain ⟨n,rfl⟩:=Int.eq_ofNat_of_zero_le (show 0≤t by have:=hr h1';omega)
  have hn:=hr h1'
  subst h1'
  have hbit:∀ m:Nat,m < 9223372036854775808→(IntKind.i64.wrap ((BitVec.ofInt IntKind.i64.bits (m:Int) &&& BitVec.ofInt IntKind.i64.bits 32).toNat:Int) != 0)=((m:Int) / 32 % 2 == 1):=fun m hm=>by
   rw [vJg 0 (n:=m) (m:=32) (q:=32) hm (by omega) rfl,show m &&& 32=32*(m / 32 % 2) from vGh m 5,Bool.eq_iff_iff]
   simp
   omega
  refine ww ?_
  refine qAa rfl (fun h2=>?_) (fun h2=>?_)
  ·have h2':(n:Int) > 255:=by simpa using h2
   have hshr:Int.fdiv (n:Int) (2 ^ (min (8:Int).toNat IntKind.i64.bits))=((n / 256:Nat):Int):=qDt n 8
   refine ww ?_
   refine qAj rfl (.refl _) rfl rfl rfl rfl ⟨congrArg (fun b=>AV.d (.bool b)) ?_,rfl⟩
   rw [hshr,hbit _ (by omega),if_pos h2']
   rfl
  ·have h2':¬ (n:Int) > 255:=by simpa using h2
   refine ww ?_
   refine qAj rfl (.refl _) rfl rfl rfl rfl ⟨congrArg (fun b=>AV.d (.bool b)) ?_,rfl⟩
   rw [hbit _ (by omega),if_neg h2']
   rfl
end Tdoc
