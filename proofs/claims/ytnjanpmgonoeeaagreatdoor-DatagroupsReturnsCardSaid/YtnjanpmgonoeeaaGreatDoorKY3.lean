/- The texts C1 WW E1 Y1 E2 E3 E4 E5 E6 E7 E8 E9 E10 E11 E12 E13 E14 E15 E16 E17 E18 E19 E20 E21 E22 E23 E24 E25 G1 G2 G3 Y4 Y7 Z1 Y2 Z2 ZM Y3 Z3 ZN ZC0 Z4 Z5 Z6 ZC ZO ZD ZR ZE ZP ZQ ZU XA P1 P2 P3 P4 P5 P6 P7 XB XC XD: each says at its head what it shows. Part 3 of the proof; no conditions beyond the theorems' own. -/
import Derived.Test.YtnjanpmgonoeeaaGreatDoorKY1
import Derived.Test.YtnjanpmgonoeeaaGreatDoorProg
import Derived.KernelRfl
import Derived.Test.YtnjanpmgonoeeaaGreatDoorKY2
namespace Tdoc
open Go Go.Proofs
def T:Tr:=(.nd (.nd (.nd (.nd (.nd (.nd (.nd (.nd .lf 1 ⟨.fn,1,8,[.nilf]⟩ .lf) 2 ⟨.int .i64,1,8,[.d (.int .i64 0)]⟩ (.nd .lf 3 ⟨.int .i64,1,8,[.d (.int .i64 0)]⟩ .lf)) 4 ⟨.bool,1,1,[.d (.bool false)]⟩ (.nd (.nd .lf 5 ⟨.int .u8,1,1,[.d (.int .u8 0)]⟩ .lf) 7 ⟨.struct [(0,1,false),(1,1,false),(2,1,false),(3,1,false)],4,24,[.d (.int .i64 0),.d (.int .i64 0),.d (.bool false),.d (.int .u8 0)]⟩ (.nd .lf 9 ⟨.str,1,16,[.d (.str [])]⟩ .lf))) 12 ⟨.int .u64,1,8,[.d (.int .u64 0)]⟩ (.nd (.nd (.nd .lf 13 ⟨.struct [(0,1,false),(1,1,false)],2,24,[.d (.str []),.d (.int .u64 0)]⟩ .lf) 18 ⟨.struct [(0,1,false)],1,8,[.nilp]⟩ (.nd .lf 21 ⟨.int .i32,1,4,[.d (.int .i32 0)]⟩ .lf)) 22 ⟨.slice 3,1,24,[.sl 1 [] .full]⟩ (.nd (.nd .lf 23 ⟨.fn,1,8,[.nilf]⟩ .lf) 24 ⟨.fn,1,8,[.nilf]⟩ .lf))) 25 ⟨.ptr,1,8,[.nilp]⟩ (.nd (.nd (.nd (.nd .lf 26 ⟨.fn,1,8,[.nilf]⟩ .lf) 27 ⟨.slice 5,1,24,[.sl 1 [] .full]⟩ (.nd .lf 28 ⟨.fn,1,8,[.nilf]⟩ .lf)) 29 ⟨.fn,1,8,[.nilf]⟩ (.nd (.nd .lf 30 ⟨.slice 92,1,24,[.sl 3 [] .full]⟩ .lf) 31 ⟨.int .i64,1,8,[.d (.int .i64 0)]⟩ .lf)) 33 ⟨.fn,1,8,[.nilf]⟩ (.nd (.nd (.nd .lf 34 ⟨.fn,1,8,[.nilf]⟩ .lf) 36 ⟨.fn,1,8,[.nilf]⟩ (.nd .lf 37 ⟨.fn,1,8,[.nilf]⟩ .lf)) 38 ⟨.struct [(0,1,false),(1,1,false),(2,1,false),(3,1,false),(4,1,false),(5,1,false),(6,1,false),(7,1,false),(8,1,false),(9,1,false),(10,1,false),(11,1,false)],12,184,[.d (.int .i64 0),.d (.str []),.d (.str []),.d (.str []),.d (.str []),.d (.str []),.d (.str []),.d (.str []),.d (.str []),.d (.str []),.d (.str []),.d (.str [])]⟩ (.nd (.nd .lf 39 ⟨.struct [(0,1,false),(1,1,false),(2,1,false),(3,1,false),(4,1,false),(5,1,false),(6,1,false),(7,1,false),(8,1,false),(9,1,false),(10,1,false),(11,1,false)],12,184,[.d (.int .i64 0),.d (.str []),.d (.str []),.d (.str []),.d (.str []),.d (.str []),.d (.str []),.d (.str []),.d (.str []),.d (.str []),.d (.str []),.d (.str [])]⟩ .lf) 40 ⟨.fn,1,8,[.nilf]⟩ .lf)))) 41 ⟨.slice 50,1,24,[.sl 7 [] .full]⟩ (.nd (.nd (.nd (.nd (.nd .lf 42 ⟨.fn,1,8,[.nilf]⟩ .lf) 43 ⟨.slice 102,1,24,[.sl 2 [] .full]⟩ (.nd .lf 44 ⟨.fn,1,8,[.nilf]⟩ .lf)) 45 ⟨.slice 104,1,24,[.sl 5 [] .full]⟩ (.nd (.nd .lf 46 ⟨.fn,1,8,[.nilf]⟩ .lf) 47 ⟨.fn,1,8,[.nilf]⟩ .lf)) 48 ⟨.fn,1,8,[.nilf]⟩ (.nd (.nd (.nd .lf 49 ⟨.struct [(0,1,false),(1,1,false),(2,1,false),(3,1,false),(4,1,false),(5,1,false),(6,1,false)],7,72,[.d (.int .i64 0),.d (.int .i64 0),.d (.int .i64 0),.d (.int .i64 0),.d (.int .i64 0),.d (.int .i64 0),.sl 1 [] .full]⟩ .lf) 50 ⟨.struct [(0,1,false),(1,1,false),(2,1,false),(3,1,false),(4,1,false),(5,1,false),(6,1,false)],7,72,[.d (.int .i64 0),.d (.int .i64 0),.d (.int .i64 0),.d (.int .i64 0),.d (.int .i64 0),.d (.int .i64 0),.sl 1 [] .full]⟩ (.nd .lf 51 ⟨.fn,1,8,[.nilf]⟩ .lf)) 52 ⟨.fn,1,8,[.nilf]⟩ (.nd (.nd .lf 53 ⟨.fn,1,8,[.nilf]⟩ .lf) 55 ⟨.fn,1,8,[.nilf]⟩ .lf))) 56 ⟨.fn,1,8,[.nilf]⟩ (.nd (.nd (.nd (.nd .lf 57 ⟨.fn,1,8,[.nilf]⟩ .lf) 58 ⟨.fn,1,8,[.nilf]⟩ (.nd .lf 59 ⟨.fn,1,8,[.nilf]⟩ .lf)) 60 ⟨.fn,1,8,[.nilf]⟩ (.nd (.nd .lf 61 ⟨.fn,1,8,[.nilf]⟩ .lf) 62 ⟨.fn,1,8,[.nilf]⟩ .lf)) 63 ⟨.fn,1,8,[.nilf]⟩ (.nd (.nd (.nd .lf 65 ⟨.fn,1,8,[.nilf]⟩ .lf) 67 ⟨.fn,1,8,[.nilf]⟩ (.nd .lf 69 ⟨.fn,1,8,[.nilf]⟩ .lf)) 71 ⟨.fn,1,8,[.nilf]⟩ (.nd (.nd .lf 72 ⟨.fn,1,8,[.nilf]⟩ .lf) 74 ⟨.fn,1,8,[.nilf]⟩ .lf))))) 75 ⟨.slice 9,1,24,[.sl 1 [] .full]⟩ (.nd (.nd (.nd (.nd (.nd (.nd .lf 77 ⟨.fn,1,8,[.nilf]⟩ .lf) 78 ⟨.fn,1,8,[.nilf]⟩ (.nd .lf 79 ⟨.fn,1,8,[.nilf]⟩ .lf)) 80 ⟨.fn,1,8,[.nilf]⟩ (.nd (.nd .lf 81 ⟨.fn,1,8,[.nilf]⟩ .lf) 83 ⟨.fn,1,8,[.nilf]⟩ .lf)) 84 ⟨.struct [(0,1,false),(1,1,false)],2,32,[.sl 1 [] .full,.d (.int .i64 0)]⟩ (.nd (.nd (.nd .lf 85 ⟨.struct [(0,1,false),(1,1,false)],2,32,[.sl 1 [] .full,.d (.int .i64 0)]⟩ .lf) 86 ⟨.fn,1,8,[.nilf]⟩ (.nd .lf 87 ⟨.fn,1,8,[.nilf]⟩ .lf)) 88 ⟨.fn,1,8,[.nilf]⟩ (.nd (.nd .lf 90 ⟨.fn,1,8,[.nilf]⟩ .lf) 91 ⟨.struct [(0,1,false),(1,1,false),(2,1,false)],3,56,[.d (.int .i64 0),.sl 1 [] .full,.sl 3 [] .full]⟩ .lf))) 92 ⟨.struct [(0,1,false),(1,1,false),(2,1,false)],3,56,[.d (.int .i64 0),.sl 1 [] .full,.sl 3 [] .full]⟩ (.nd (.nd (.nd (.nd .lf 93 ⟨.int .u64,1,8,[.d (.int .u64 0)]⟩ .lf) 94 ⟨.fn,1,8,[.nilf]⟩ (.nd .lf 95 ⟨.fn,1,8,[.nilf]⟩ .lf)) 97 ⟨.fn,1,8,[.nilf]⟩ (.nd (.nd .lf 98 ⟨.fn,1,8,[.nilf]⟩ .lf) 99 ⟨.array 4 3,4,32,[.d (.int .i64 0),.d (.int .i64 0),.d (.int .i64 0),.d (.int .i64 0)]⟩ .lf)) 100 ⟨.fn,1,8,[.nilf]⟩ (.nd (.nd (.nd .lf 101 ⟨.struct [(0,1,false),(1,1,false)],2,24,[.d (.int .i64 0),.d (.str [])]⟩ .lf) 102 ⟨.struct [(0,1,false),(1,1,false)],2,24,[.d (.int .i64 0),.d (.str [])]⟩ (.nd .lf 103 ⟨.struct [(0,1,false),(1,1,false),(2,1,false),(3,1,false),(4,1,false)],5,40,[.d (.int .i64 0),.d (.int .i64 0),.d (.int .i64 0),.d (.int .i64 0),.d (.int .i64 0)]⟩ .lf)) 104 ⟨.struct [(0,1,false),(1,1,false),(2,1,false),(3,1,false),(4,1,false)],5,40,[.d (.int .i64 0),.d (.int .i64 0),.d (.int .i64 0),.d (.int .i64 0),.d (.int .i64 0)]⟩ (.nd (.nd .lf 105 ⟨.fn,1,8,[.nilf]⟩ .lf) 106 ⟨.fn,1,8,[.nilf]⟩ .lf)))) 107 ⟨.fn,1,8,[.nilf]⟩ (.nd (.nd (.nd (.nd (.nd .lf 108 ⟨.fn,1,8,[.nilf]⟩ .lf) 109 ⟨.fn,1,8,[.nilf]⟩ (.nd .lf 110 ⟨.fn,1,8,[.nilf]⟩ .lf)) 111 ⟨.fn,1,8,[.nilf]⟩ (.nd (.nd .lf 112 ⟨.fn,1,8,[.nilf]⟩ .lf) 113 ⟨.fn,1,8,[.nilf]⟩ .lf)) 114 ⟨.array 18 3,18,144,[.d (.int .i64 0),.d (.int .i64 0),.d (.int .i64 0),.d (.int .i64 0),.d (.int .i64 0),.d (.int .i64 0),.d (.int .i64 0),.d (.int .i64 0),.d (.int .i64 0),.d (.int .i64 0),.d (.int .i64 0),.d (.int .i64 0),.d (.int .i64 0),.d (.int .i64 0),.d (.int .i64 0),.d (.int .i64 0),.d (.int .i64 0),.d (.int .i64 0)]⟩ (.nd (.nd (.nd .lf 115 ⟨.fn,1,8,[.nilf]⟩ .lf) 116 ⟨.fn,1,8,[.nilf]⟩ (.nd .lf 117 ⟨.fn,1,8,[.nilf]⟩ .lf)) 118 ⟨.fn,1,8,[.nilf]⟩ (.nd (.nd .lf 119 ⟨.fn,1,8,[.nilf]⟩ .lf) 120 ⟨.fn,1,8,[.nilf]⟩ .lf))) 122 ⟨.fn,1,8,[.nilf]⟩ (.nd (.nd (.nd (.nd .lf 123 ⟨.fn,1,8,[.nilf]⟩ .lf) 124 ⟨.fn,1,8,[.nilf]⟩ (.nd .lf 125 ⟨.fn,1,8,[.nilf]⟩ .lf)) 127 ⟨.fn,1,8,[.nilf]⟩ (.nd (.nd .lf 128 ⟨.fn,1,8,[.nilf]⟩ .lf) 129 ⟨.array 2 9,2,32,[.d (.str []),.d (.str [])]⟩ .lf)) 130 ⟨.fn,1,8,[.nilf]⟩ (.nd (.nd (.nd .lf 131 ⟨.fn,1,8,[.nilf]⟩ .lf) 132 ⟨.fn,1,8,[.nilf]⟩ (.nd .lf 133 ⟨.fn,1,8,[.nilf]⟩ .lf)) 134 ⟨.fn,1,8,[.nilf]⟩ (.nd (.nd .lf 135 ⟨.fn,1,8,[.nilf]⟩ .lf) 137 ⟨.fn,1,8,[.nilf]⟩ .lf)))))) 138 ⟨.fn,1,8,[.nilf]⟩ (.nd (.nd (.nd (.nd (.nd (.nd (.nd .lf 139 ⟨.struct [(0,1,false),(1,1,false),(2,1,false),(3,1,false)],4,48,[.sl 1 [] .full,.d (.int .i64 0),.d (.bool false),.d (.int .i64 0)]⟩ .lf) 140 ⟨.struct [(0,1,false),(1,1,false),(2,1,false),(3,1,false)],4,48,[.sl 1 [] .full,.d (.int .i64 0),.d (.bool false),.d (.int .i64 0)]⟩ (.nd .lf 141 ⟨.fn,1,8,[.nilf]⟩ .lf)) 142 ⟨.array 8 9,8,128,[.d (.str []),.d (.str []),.d (.str []),.d (.str []),.d (.str []),.d (.str []),.d (.str []),.d (.str [])]⟩ (.nd (.nd .lf 144 ⟨.fn,1,8,[.nilf]⟩ .lf) 145 ⟨.struct [(0,1,false),(1,1,false),(2,1,false)],3,24,[.d (.int .i64 0),.d (.int .i64 0),.d (.int .i64 0)]⟩ .lf)) 146 ⟨.struct [(0,1,false),(1,1,false),(2,1,false)],3,24,[.d (.int .i64 0),.d (.int .i64 0),.d (.int .i64 0)]⟩ (.nd (.nd (.nd .lf 147 ⟨.array 15 146,45,360,[.d (.int .i64 0),.d (.int .i64 0),.d (.int .i64 0),.d (.int .i64 0),.d (.int .i64 0),.d (.int .i64 0),.d (.int .i64 0),.d (.int .i64 0),.d (.int .i64 0),.d (.int .i64 0),.d (.int .i64 0),.d (.int .i64 0),.d (.int .i64 0),.d (.int .i64 0),.d (.int .i64 0),.d (.int .i64 0),.d (.int .i64 0),.d (.int .i64 0),.d (.int .i64 0),.d (.int .i64 0),.d (.int .i64 0),.d (.int .i64 0),.d (.int .i64 0),.d (.int .i64 0),.d (.int .i64 0),.d (.int .i64 0),.d (.int .i64 0),.d (.int .i64 0),.d (.int .i64 0),.d (.int .i64 0),.d (.int .i64 0),.d (.int .i64 0),.d (.int .i64 0),.d (.int .i64 0),.d (.int .i64 0),.d (.int .i64 0),.d (.int .i64 0),.d (.int .i64 0),.d (.int .i64 0),.d (.int .i64 0),.d (.int .i64 0),.d (.int .i64 0),.d (.int .i64 0),.d (.int .i64 0),.d (.int .i64 0)]⟩ .lf) 149 ⟨.fn,1,8,[.nilf]⟩ (.nd .lf 150 ⟨.ptr,1,8,[.nilp]⟩ .lf)) 151 ⟨.slice 27,1,24,[.sl 1 [] .full]⟩ (.nd (.nd .lf 152 ⟨.struct [(0,45,true),(45,1,false)],46,384,[.d (.int .i64 0),.d (.int .i64 0),.d (.int .i64 0),.d (.int .i64 0),.d (.int .i64 0),.d (.int .i64 0),.d (.int .i64 0),.d (.int .i64 0),.d (.int .i64 0),.d (.int .i64 0),.d (.int .i64 0),.d (.int .i64 0),.d (.int .i64 0),.d (.int .i64 0),.d (.int .i64 0),.d (.int .i64 0),.d (.int .i64 0),.d (.int .i64 0),.d (.int .i64 0),.d (.int .i64 0),.d (.int .i64 0),.d (.int .i64 0),.d (.int .i64 0),.d (.int .i64 0),.d (.int .i64 0),.d (.int .i64 0),.d (.int .i64 0),.d (.int .i64 0),.d (.int .i64 0),.d (.int .i64 0),.d (.int .i64 0),.d (.int .i64 0),.d (.int .i64 0),.d (.int .i64 0),.d (.int .i64 0),.d (.int .i64 0),.d (.int .i64 0),.d (.int .i64 0),.d (.int .i64 0),.d (.int .i64 0),.d (.int .i64 0),.d (.int .i64 0),.d (.int .i64 0),.d (.int .i64 0),.d (.int .i64 0),.sl 1 [] .full]⟩ .lf) 153 ⟨.struct [(0,45,true),(45,1,false)],46,384,[.d (.int .i64 0),.d (.int .i64 0),.d (.int .i64 0),.d (.int .i64 0),.d (.int .i64 0),.d (.int .i64 0),.d (.int .i64 0),.d (.int .i64 0),.d (.int .i64 0),.d (.int .i64 0),.d (.int .i64 0),.d (.int .i64 0),.d (.int .i64 0),.d (.int .i64 0),.d (.int .i64 0),.d (.int .i64 0),.d (.int .i64 0),.d (.int .i64 0),.d (.int .i64 0),.d (.int .i64 0),.d (.int .i64 0),.d (.int .i64 0),.d (.int .i64 0),.d (.int .i64 0),.d (.int .i64 0),.d (.int .i64 0),.d (.int .i64 0),.d (.int .i64 0),.d (.int .i64 0),.d (.int .i64 0),.d (.int .i64 0),.d (.int .i64 0),.d (.int .i64 0),.d (.int .i64 0),.d (.int .i64 0),.d (.int .i64 0),.d (.int .i64 0),.d (.int .i64 0),.d (.int .i64 0),.d (.int .i64 0),.d (.int .i64 0),.d (.int .i64 0),.d (.int .i64 0),.d (.int .i64 0),.d (.int .i64 0),.sl 1 [] .full]⟩ .lf))) 155 ⟨.fn,1,8,[.nilf]⟩ (.nd (.nd (.nd (.nd .lf 156 ⟨.fn,1,8,[.nilf]⟩ .lf) 157 ⟨.fn,1,8,[.nilf]⟩ (.nd .lf 158 ⟨.fn,1,8,[.nilf]⟩ .lf)) 159 ⟨.fn,1,8,[.nilf]⟩ (.nd (.nd .lf 160 ⟨.fn,1,8,[.nilf]⟩ .lf) 161 ⟨.fn,1,8,[.nilf]⟩ .lf)) 162 ⟨.fn,1,8,[.nilf]⟩ (.nd (.nd (.nd .lf 163 ⟨.fn,1,8,[.nilf]⟩ .lf) 164 ⟨.fn,1,8,[.nilf]⟩ (.nd .lf 165 ⟨.fn,1,8,[.nilf]⟩ .lf)) 166 ⟨.fn,1,8,[.nilf]⟩ (.nd (.nd .lf 167 ⟨.fn,1,8,[.nilf]⟩ .lf) 168 ⟨.fn,1,8,[.nilf]⟩ .lf)))) 170 ⟨.fn,1,8,[.nilf]⟩ (.nd (.nd (.nd (.nd (.nd .lf 172 ⟨.fn,1,8,[.nilf]⟩ .lf) 173 ⟨.fn,1,8,[.nilf]⟩ (.nd .lf 175 ⟨.fn,1,8,[.nilf]⟩ .lf)) 176 ⟨.fn,1,8,[.nilf]⟩ (.nd (.nd .lf 177 ⟨.ptr,1,8,[.nilp]⟩ .lf) 179 ⟨.fn,1,8,[.nilf]⟩ .lf)) 180 ⟨.fn,1,8,[.nilf]⟩ (.nd (.nd (.nd .lf 181 ⟨.fn,1,8,[.nilf]⟩ .lf) 182 ⟨.fn,1,8,[.nilf]⟩ (.nd .lf 183 ⟨.fn,1,8,[.nilf]⟩ .lf)) 184 ⟨.fn,1,8,[.nilf]⟩ (.nd (.nd .lf 185 ⟨.array 3 3,3,24,[.d (.int .i64 0),.d (.int .i64 0),.d (.int .i64 0)]⟩ .lf) 186 ⟨.fn,1,8,[.nilf]⟩ .lf))) 187 ⟨.fn,1,8,[.nilf]⟩ (.nd (.nd (.nd (.nd .lf 188 ⟨.ptr,1,8,[.nilp]⟩ .lf) 190 ⟨.fn,1,8,[.nilf]⟩ (.nd .lf 191 ⟨.fn,1,8,[.nilf]⟩ .lf)) 193 ⟨.fn,1,8,[.nilf]⟩ (.nd (.nd .lf 194 ⟨.ptr,1,8,[.nilp]⟩ .lf) 195 ⟨.struct [(0,1,false),(1,1,false)],2,32,[.nilp,.sl 1 [] .full]⟩ .lf)) 196 ⟨.struct [(0,1,false),(1,1,false)],2,32,[.nilp,.sl 1 [] .full]⟩ (.nd (.nd (.nd .lf 197 ⟨.fn,1,8,[.nilf]⟩ .lf) 201 ⟨.fn,1,8,[.nilf]⟩ (.nd .lf 202 ⟨.fn,1,8,[.nilf]⟩ .lf)) 203 ⟨.struct [(0,1,false),(1,1,false)],2,16,[.d (.int .i64 0),.d (.int .i64 0)]⟩ (.nd (.nd .lf 204 ⟨.struct [(0,1,false),(1,1,false)],2,16,[.d (.int .i64 0),.d (.int .i64 0)]⟩ .lf) 205 ⟨.slice 204,1,24,[.sl 2 [] .full]⟩ .lf))))) 206 ⟨.fn,1,8,[.nilf]⟩ (.nd (.nd (.nd (.nd (.nd (.nd .lf 207 ⟨.fn,1,8,[.nilf]⟩ .lf) 208 ⟨.fn,1,8,[.nilf]⟩ (.nd .lf 209 ⟨.fn,1,8,[.nilf]⟩ .lf)) 210 ⟨.fn,1,8,[.nilf]⟩ (.nd (.nd .lf 211 ⟨.fn,1,8,[.nilf]⟩ .lf) 212 ⟨.fn,1,8,[.nilf]⟩ .lf)) 213 ⟨.fn,1,8,[.nilf]⟩ (.nd (.nd (.nd .lf 214 ⟨.array 6 3,6,48,[.d (.int .i64 0),.d (.int .i64 0),.d (.int .i64 0),.d (.int .i64 0),.d (.int .i64 0),.d (.int .i64 0)]⟩ .lf) 215 ⟨.fn,1,8,[.nilf]⟩ (.nd .lf 216 ⟨.array 2 3,2,16,[.d (.int .i64 0),.d (.int .i64 0)]⟩ .lf)) 217 ⟨.array 4 216,8,64,[.d (.int .i64 0),.d (.int .i64 0),.d (.int .i64 0),.d (.int .i64 0),.d (.int .i64 0),.d (.int .i64 0),.d (.int .i64 0),.d (.int .i64 0)]⟩ (.nd (.nd .lf 218 ⟨.fn,1,8,[.nilf]⟩ .lf) 220 ⟨.fn,1,8,[.nilf]⟩ .lf))) 221 ⟨.fn,1,8,[.nilf]⟩ (.nd (.nd (.nd (.nd .lf 222 ⟨.struct [(0,1,false),(1,1,false),(2,1,false)],3,24,[.d (.int .i64 0),.d (.int .i64 0),.nilp]⟩ .lf) 223 ⟨.struct [(0,1,false),(1,1,false),(2,1,false)],3,24,[.d (.int .i64 0),.d (.int .i64 0),.nilp]⟩ (.nd .lf 224 ⟨.slice 223,1,24,[.sl 3 [] .full]⟩ .lf)) 225 ⟨.fn,1,8,[.nilf]⟩ (.nd (.nd .lf 226 ⟨.fn,1,8,[.nilf]⟩ .lf) 227 ⟨.fn,1,8,[.nilf]⟩ .lf)) 228 ⟨.fn,1,8,[.nilf]⟩ (.nd (.nd (.nd .lf 229 ⟨.int .u32,1,4,[.d (.int .u32 0)]⟩ .lf) 231 ⟨.fn,1,8,[.nilf]⟩ (.nd .lf 232 ⟨.int .u64,1,8,[.d (.int .u64 0)]⟩ .lf)) 234 ⟨.fn,1,8,[.nilf]⟩ (.nd (.nd .lf 235 ⟨.ptr,1,8,[.nilp]⟩ .lf) 236 ⟨.fn,1,8,[.nilf]⟩ .lf)))) 237 ⟨.fn,1,8,[.nilf]⟩ (.nd (.nd (.nd (.nd (.nd .lf 238 ⟨.array 2 5,2,2,[.d (.int .u8 0),.d (.int .u8 0)]⟩ .lf) 239 ⟨.array 7 238,14,14,[.d (.int .u8 0),.d (.int .u8 0),.d (.int .u8 0),.d (.int .u8 0),.d (.int .u8 0),.d (.int .u8 0),.d (.int .u8 0),.d (.int .u8 0),.d (.int .u8 0),.d (.int .u8 0),.d (.int .u8 0),.d (.int .u8 0),.d (.int .u8 0),.d (.int .u8 0)]⟩ (.nd .lf 240 ⟨.fn,1,8,[.nilf]⟩ .lf)) 241 ⟨.fn,1,8,[.nilf]⟩ (.nd (.nd .lf 245 ⟨.fn,1,8,[.nilf]⟩ .lf) 246 ⟨.fn,1,8,[.nilf]⟩ .lf)) 247 ⟨.ptr,1,8,[.nilp]⟩ (.nd (.nd (.nd .lf 248 ⟨.fn,1,8,[.nilf]⟩ .lf) 249 ⟨.fn,1,8,[.nilf]⟩ (.nd .lf 251 ⟨.fn,1,8,[.nilf]⟩ .lf)) 253 ⟨.fn,1,8,[.nilf]⟩ (.nd (.nd .lf 254 ⟨.fn,1,8,[.nilf]⟩ .lf) 255 ⟨.fn,1,8,[.nilf]⟩ .lf))) 256 ⟨.fn,1,8,[.nilf]⟩ (.nd (.nd (.nd (.nd .lf 257 ⟨.array 12 3,12,96,[.d (.int .i64 0),.d (.int .i64 0),.d (.int .i64 0),.d (.int .i64 0),.d (.int .i64 0),.d (.int .i64 0),.d (.int .i64 0),.d (.int .i64 0),.d (.int .i64 0),.d (.int .i64 0),.d (.int .i64 0),.d (.int .i64 0)]⟩ .lf) 258 ⟨.fn,1,8,[.nilf]⟩ (.nd .lf 259 ⟨.fn,1,8,[.nilf]⟩ .lf)) 260 ⟨.fn,1,8,[.nilf]⟩ (.nd (.nd .lf 262 ⟨.struct [(0,1,false),(1,1,false)],2,2,[.d (.int .u8 0),.d (.int .u8 0)]⟩ .lf) 263 ⟨.struct [(0,1,false),(1,1,false)],2,2,[.d (.int .u8 0),.d (.int .u8 0)]⟩ .lf)) 264 ⟨.array 16 263,32,32,[.d (.int .u8 0),.d (.int .u8 0),.d (.int .u8 0),.d (.int .u8 0),.d (.int .u8 0),.d (.int .u8 0),.d (.int .u8 0),.d (.int .u8 0),.d (.int .u8 0),.d (.int .u8 0),.d (.int .u8 0),.d (.int .u8 0),.d (.int .u8 0),.d (.int .u8 0),.d (.int .u8 0),.d (.int .u8 0),.d (.int .u8 0),.d (.int .u8 0),.d (.int .u8 0),.d (.int .u8 0),.d (.int .u8 0),.d (.int .u8 0),.d (.int .u8 0),.d (.int .u8 0),.d (.int .u8 0),.d (.int .u8 0),.d (.int .u8 0),.d (.int .u8 0),.d (.int .u8 0),.d (.int .u8 0),.d (.int .u8 0),.d (.int .u8 0)]⟩ (.nd (.nd (.nd .lf 265 ⟨.fn,1,8,[.nilf]⟩ .lf) 266 ⟨.struct [(0,1,false),(1,1,false),(2,1,false),(3,1,false)],4,40,[.nilp,.nilp,.nilp,.d (.str [])]⟩ (.nd .lf 268 ⟨.array 0 16,0,0,[]⟩ .lf)) 269 ⟨.struct [(0,0,true)],0,0,[]⟩ (.nd (.nd .lf 273 ⟨.fn,1,8,[.nilf]⟩ .lf) 276 ⟨.struct [(0,1,false),(1,1,false),(2,1,false),(3,1,false),(4,1,false),(5,1,false),(6,1,false),(7,1,false),(8,1,false),(9,1,false),(10,1,false)],11,48,[.d (.int .u64 0),.d (.int .u64 0),.d (.int .u32 0),.d (.int .u8 0),.d (.int .u8 0),.d (.int .u8 0),.d (.int .u8 0),.nilf,.nilp,.d (.int .i32 0),.d (.int .i32 0)]⟩ .lf)))))))
theorem hT:TOk Tryz.prog T:=⟨by kernel_rfl⟩
theorem mixed:Tryz.prog.follows .mixedOrders=true:=by kernel_rfl
end Tdoc
set_option linter.unusedVariables false
namespace Tdoc
open Go Go.Proofs
structure Box (p:Prop):Prop where
 out:p
theorem ww {g n:Prop} (k:n) (h:Box n→g:=by intro hk;(repeat (first | refine wk hT rfl rfl ?_ | refine wd hT rfl rfl rfl ?_ | refine wz hT rfl ?_ | refine AWd_nil ?_ | refine AWk_nil ?_ | refine wh hT rfl rfl rfl rfl ?_ | refine wg hT rfl rfl rfl rfl rfl ?_ | refine qAu ?_ | refine qAn ?_ | refine wx mixed ?_ | refine AW_block ?_ | refine AW_skip ?_ | refine AW_exit ?_ | refine AW_ret ?_));exact hk.out):g:=h ⟨k⟩
theorem wwn {g n:Prop} (k:n) (h:Box n→g:=by intro hk;(repeat (first | refine wk hT rfl rfl ?_ | refine wd hT rfl rfl rfl ?_ | refine wz hT rfl ?_ | refine AWd_nil ?_ | refine AWk_nil ?_ | refine wh hT rfl rfl rfl rfl ?_ | refine wg hT rfl rfl rfl rfl rfl ?_ | refine qAu ?_ | refine qAn ?_ | refine AW_block ?_ | refine AW_skip ?_ | refine AW_exit ?_ | refine AW_ret ?_));exact hk.out):g:=h ⟨k⟩
theorem wwg {g n:Prop} (k:n) (h:Box n→g:=by intro hk;(repeat (first | refine AWg_load hT rfl rfl rfl rfl (by first | exact List.mem_cons_self | exact sm) rfl ?_ | refine AWg_pure hT (fun _=>rfl) rfl rfl (by first | exact True.intro | omega | exact sd) ?_ | refine AWg_store hT rfl rfl rfl (by first | exact List.mem_cons_self | exact sm) rfl ?_ | refine AWd_nil ?_));exact hk.out):g:=h ⟨k⟩
theorem wws {g n:Prop} (k:n) (h:Box n→g:=by intro hk;(repeat (first | refine wk hT rfl rfl ?_ | refine wd hT rfl rfl rfl ?_ | refine wz hT rfl ?_ | refine AWd_nil ?_ | refine AWk_nil ?_ | refine wh hT rfl rfl rfl rfl ?_ | refine wg hT rfl rfl rfl rfl rfl ?_));exact hk.out):g:=h ⟨k⟩
theorem wwe {g n:Prop} (k:n) (h:Box n→g:=by intro hk;(repeat (first | refine AW_exit ?_ | refine AW_skip ?_));exact hk.out):g:=h ⟨k⟩
theorem wwr {g:Prop} (h:g:=by (first | exact rx ⟨rfl,rfl⟩ | exact rxN ⟨rfl,rfl⟩ | (refine rq ⟨rfl,rfl⟩ rfl ?_;repeat (first | exact trivial | exact AV.le.refl _ | exact AV.le.dat | exact AV.le.nils | exact AV.le.nilsf | exact AV.le.any _ | exact ObLe.refl _ | exact ⟨rfl,rfl⟩ | refine AV.le.tup ?_ | refine AV.le.agg ?_ | exact li | exact lb | exact ls | exact lk | exact ld | exact lz | refine ⟨?_,?_⟩)) | (refine rqN ⟨rfl,rfl⟩ rfl ?_;repeat (first | exact trivial | exact AV.le.refl _ | exact AV.le.dat | exact AV.le.nils | exact AV.le.nilsf | exact AV.le.any _ | exact ObLe.refl _ | exact ⟨rfl,rfl⟩ | refine AV.le.tup ?_ | refine AV.le.agg ?_ | exact li | exact lb | exact ls | exact lk | exact ld | exact lz | refine ⟨?_,?_⟩)))):g:=h
theorem wwc {A g n:Prop} (S:A) (k:n) (h:A→Box n→g:=by intro S hk;(first | refine qAd (callS0 rfl rfl (S) rfl rfl rfl) rfl ?_ | refine qAp (callS0 rfl rfl (S) rfl rfl rfl) rfl rfl ?_ | refine qAd (callS0L rfl rfl (S) rfl (by repeat (first | exact trivial | exact AV.le.refl _ | exact AV.le.dat | exact AV.le.nils | exact AV.le.nilsf | exact AV.le.any _ | exact ObLe.refl _ | exact ⟨rfl,rfl⟩ | refine AV.le.tup ?_ | refine AV.le.agg ?_ | exact li | exact lb | exact ls | exact lk | exact ld | exact lz | refine ⟨?_,?_⟩)) rfl rfl) rfl ?_ | refine qAp (callS0L rfl rfl (S) rfl (by repeat (first | exact trivial | exact AV.le.refl _ | exact AV.le.dat | exact AV.le.nils | exact AV.le.nilsf | exact AV.le.any _ | exact ObLe.refl _ | exact ⟨rfl,rfl⟩ | refine AV.le.tup ?_ | refine AV.le.agg ?_ | exact li | exact lb | exact ls | exact lk | exact ld | exact lz | refine ⟨?_,?_⟩)) rfl rfl) rfl rfl ?_);exact hk.out):g:=h S ⟨k⟩
theorem wwx {A g n:Prop} (S:A) (k:n) (h:A→Box n→g:=by intro S hk;(refine qAz (callX0 rfl rfl (S) rfl (by repeat (first | exact trivial | exact AV.le.refl _ | exact AV.le.dat | exact AV.le.nils | exact AV.le.nilsf | exact AV.le.any _ | exact ObLe.refl _ | exact ⟨rfl,rfl⟩ | refine AV.le.tup ?_ | refine AV.le.agg ?_ | exact li | exact lb | exact ls | exact lk | exact ld | exact lz | refine ⟨?_,?_⟩)) rfl (fun _=>rfl)) rfl ?_);exact hk.out):g:=h S ⟨k⟩
theorem wwgc {A g n:Prop} (S:A) (k:n) (h:A→Box n→g:=by intro S hk;(first | refine qBq rfl rfl rfl (fun hg=>⟨(sg (C:=True) hg).1,callS0 rfl rfl (S) rfl rfl rfl⟩) ?_ | refine AWd_gop rfl rfl rfl rfl (fun hg=>⟨(sg (C:=True) hg).1,callS0 rfl rfl (S) rfl rfl rfl⟩) ?_);exact hk.out):g:=h S ⟨k⟩
theorem wwdc {A g n:Prop} (S:A) (k:n) (h:A→Box n→g:=by intro S hk;(first | refine qAs (os:=[]) (fun k hk1 hk2=>callS0 rfl rfl (S) rfl rfl rfl) rfl ?_ | refine qAs (os:=[]) (fun k hk1 hk2=>callS0L rfl rfl (S) rfl (by repeat (first | exact trivial | exact AV.le.refl _ | exact AV.le.dat | exact AV.le.nils | exact AV.le.nilsf | exact AV.le.any _ | exact ObLe.refl _ | exact ⟨rfl,rfl⟩ | refine AV.le.tup ?_ | refine AV.le.agg ?_ | exact li | exact lb | exact ls | exact lk | exact ld | exact lz | refine ⟨?_,?_⟩)) rfl rfl) rfl ?_);exact hk.out):g:=h S ⟨k⟩
theorem wwi {A g n:Prop} (S:A) (k:n) (h:A→Box n→g:=by intro S hk;(first | refine qAd (qAc (qAi hT rfl rfl rfl rfl (by omega) (S))) rfl ?_ | refine qAp (qAc (qAi hT rfl rfl rfl rfl (by omega) (S))) rfl rfl ?_);exact hk.out):g:=h S ⟨k⟩
theorem wwgi {A g n:Prop} (S:A) (k:n) (h:A→Box n→g:=by intro S hk;(first | refine qBq rfl rfl rfl (fun hg=>⟨(sg (C:=True) hg).1,qAc (qAi hT rfl rfl rfl rfl (by omega) (S))⟩) ?_ | refine AWd_gop rfl rfl rfl rfl (fun hg=>⟨(sg (C:=True) hg).1,qAc (qAi hT rfl rfl rfl rfl (by omega) (S))⟩) ?_);exact hk.out):g:=h S ⟨k⟩
theorem wwk {A g n:Prop} (S:A) (k:n) (h:A→Box n→g:=by intro S hk;(repeat (first | refine AWd_gop (v:=.d (.bool false)) rfl rfl rfl rfl (fun hg=>absurd hg (by rw [S];simp [gval])) ?_ | refine qBq (v:=.d (.bool false)) rfl rfl rfl (fun hg=>absurd hg (by rw [S];simp [gval])) ?_ | refine wk hT rfl rfl ?_ | refine wd hT rfl rfl rfl ?_ | refine wz hT rfl ?_ | refine AWd_nil ?_ | refine AWk_nil ?_ | refine wh hT rfl rfl rfl rfl ?_ | refine wg hT rfl rfl rfl rfl rfl ?_ | refine qAu ?_ | refine qAn ?_ | refine wx mixed ?_ | refine AW_block ?_ | refine AW_skip ?_ | refine AW_exit ?_ | refine AW_ret ?_));exact hk.out):g:=h S ⟨k⟩
end Tdoc
set_option linter.unusedSimpArgs false
namespace Tdoc
open Go Go.Proofs
def encB (s:List UInt8):List (List Dat):=s.map fun b=>[.int .u8 (b.toNat:Int)]
theorem qAl (s:List UInt8):(encB s).length=s.length:=by simp [encB]
theorem qCj (a b:List UInt8):encB (a++b)=encB a++encB b:=by simp [encB]
theorem encB_at {s:List UInt8} {i:Nat} (h:i < s.length):(encB s)[i]?=some [.int .u8 (s[i].toNat:Int)]:=by simp [encB,h]
theorem encB_take (s:List UInt8) (i:Nat):(encB s).take i=encB (s.take i):=by simp [encB,List.map_take]
theorem encB_drop (s:List UInt8) (i:Nat):(encB s).drop i=encB (s.drop i):=by simp [encB,List.map_drop]
inductive Node where
 | mk (tag:Int) (val:List UInt8) (kids:List Node)
mutual
def encN:Node→List Dat
 | .mk t v k=>[.int .i64 t,.sl 1 (encB v),.sl 3 (encNs k)]
def encNs:List Node→List (List Dat)
 | []=>[]
 | a::l=>encN a::encNs l
end
def nAV (n:Node):AV:=.agg ((encN n).map .d)
theorem encNs_eq:∀ (l:List Node),encNs l=l.map encN
 | []=>rfl
 | a::l=>by simp [encNs,encNs_eq l]
theorem qAm (l:List Node):(encNs l).length=l.length:=by rw [encNs_eq];simp
theorem qDs (a b:List Node):encNs (a++b)=encNs a++encNs b:=by simp [encNs_eq]
def tagOk (t:Int):Bool :=
 if t < 256 then decide (0 < t)&&!(t % 32 == 31) else decide (t < 65536)&&(t / 256 % 32 == 31)&&decide (1≤t % 256)&&decide (t % 256≤127)
def tagCons (t:Int):Bool:=tagOk t&&((if t > 255 then t / 256 else t) / 32 % 2 == 1)
theorem tagOk_range {t:Int} (h:tagOk t=true):0 < t∧t < 65536:=by
 unfold tagOk at h
 split at h
 ·simp at h;omega
 ·simp at h;omega
mutual
def chkN (d:Nat):Node→Nat→Int×Nat
 | .mk t v k,c =>
  if tagOk t=false then (4,c+1)
  else if (tagCons t=false∧k≠[])∨(tagCons t=true∧v≠[]) then (1,c+1)
  else if 8 < d then (7,c+1)
  else chkL (d+1) k (c+1)
def chkL (d:Nat):List Node→Nat→Int×Nat
 | [],c=>(0,c)
 | a::l,c=>if (chkN d a c).1=0 then chkL d l (chkN d a c).2 else chkN d a c
end
mutual
def sizeN:Node→Nat
 | .mk _ _ k=>1+sizeL k
def sizeL:List Node→Nat
 | []=>0
 | a::l=>sizeN a+sizeL l
end
mutual
theorem chkN_count (d:Nat):∀ (n:Node) (c:Nat),(chkN d n c).2≤c+sizeN n∧((chkN d n c).1=0→(chkN d n c).2=c+sizeN n)
 | .mk t v k,c=>by
  have hk:=qDu (d+1) k (c+1)
  rw [chkN,sizeN]
  split
  ·exact ⟨by simp only;omega,fun h=>by simp at h⟩
  ·split
   ·exact ⟨by simp only;omega,fun h=>by simp at h⟩
   ·split
    ·exact ⟨by simp only;omega,fun h=>by simp at h⟩
    ·exact ⟨by omega,fun h=>by have:=hk.2 h;omega⟩
theorem qDu (d:Nat):∀ (l:List Node) (c:Nat),(chkL d l c).2≤c+sizeL l∧((chkL d l c).1=0→(chkL d l c).2=c+sizeL l)
 | [],c=>by simp [chkL,sizeL]
 | a::l,c=>by
  have ha:=chkN_count d a c
  have hl:=qDu d l (chkN d a c).2
  rw [chkL,sizeL]
  split
  ·rename_i h0
   have:=ha.2 h0
   exact ⟨by omega,fun h=>by have:=hl.2 h;omega⟩
  ·rename_i h0
   exact ⟨by omega,fun h=>absurd h h0⟩
end
def digL:Nat→Nat→List UInt8
 | 0,_=>[]
 | m+1,n=>if n=0 then [] else UInt8.ofNat (n % 256)::digL m (n / 256)
theorem digL_zero (m:Nat):digL m 0=[]:=by cases m <;> simp [digL]
theorem digL_length:∀ (m n:Nat),(digL m n).length≤m
 | 0,_=>Nat.le_refl _
 | m+1,n=>by
  rw [digL]
  split
  ·simp
  ·have:=digL_length m (n / 256);simp;omega
def digs (m n:Nat):List UInt8:=(digL m n).reverse
def lenB (n:Nat):List UInt8:=if n < 128 then [UInt8.ofNat n] else UInt8.ofNat (128+(digs 8 n).length)::digs 8 n
def tagB (t:Int):List UInt8:=if t > 255 then [UInt8.ofNat (t / 256 % 256).toNat,UInt8.ofNat (t % 256).toNat] else [UInt8.ofNat (t % 256).toNat]
mutual
def wrN:Node→List UInt8
 | .mk t v k=>tagB t++lenB (if tagCons t=true then wrL k else v).length++(if tagCons t=true then wrL k else v)
def wrL:List Node→List UInt8
 | []=>[]
 | a::l=>wrN a++wrL l
end
def encodeP (l:List Node):List UInt8×Int :=
 if (chkL 1 l 0).1≠0 then ([],(chkL 1 l 0).1)
 else if (chkL 1 l 0).2 > 256 then ([],2)
 else if (wrL l).length > 4096 then ([],2)
 else (wrL l,0)
end Tdoc
namespace Tdoc
open Go Go.Proofs
def valC (n:Int):Int:=if 48≤n∧n≤57 then n-48 else if 65≤n∧n≤90 then n-55 else if n=60 then 0 else -1
theorem valC_range (n:Int) : -1≤valC n∧valC n≤35:=by unfold valC;split <;> (try split) <;> (try split) <;> omega
def bI (c:UInt8):Int:=(c.toNat:Int)
theorem bI_range (c:UInt8):0≤bI c∧bI c < 256:=by have:=UInt8.toNat_lt c;unfold bI;omega
def validS:List UInt8→Bool
 | []=>true
 | c::l=>decide (0≤valC (bI c))&&validS l
def wgtC (i:Nat):Int:=if i % 3=0 then 7 else if i % 3=1 then 3 else 1
def digSum:Nat→List UInt8→Int
 | _,[]=>0
 | i,c::l=>wgtC i*valC (bI c)+digSum (i+1) l
def digitS (s:List UInt8):List UInt8:=[UInt8.ofNat (48+digSum 0 s % 10).toNat]
def digitF (s:List UInt8):List UInt8×Int:=if validS s=true then (digitS s,0) else ([],12)
theorem digSum_range:∀ (i:Nat) (s:List UInt8),validS s=true→0≤digSum i s∧digSum i s≤245*s.length
 | i,[],_=>by simp [digSum]
 | i,c::l,h=>by
  simp only [validS,Bool.and_eq_true,decide_eq_true_eq] at h
  have ih:=digSum_range (i+1) l h.2
  have hv:=valC_range (bI c)
  have hw:wgtC i=7∨wgtC i=3∨wgtC i=1:=by unfold wgtC;split <;> (try split) <;> simp
  rw [digSum]
  simp only [List.length_cons]
  rcases hw with hw | hw | hw <;> rw [hw] <;> omega
def nameL:Bool→List UInt8→Bool
 | _,[]=>true
 | b,c::l=>if c=32 then !b&&!l.isEmpty&&nameL true l else decide (65≤bI c∧bI c≤90)&&nameL false l
def fillS (s:List UInt8):List UInt8:=s.map fun c=>if c=32 then 60 else c
def wideS (s:List UInt8) (n:Nat):List UInt8:=s++List.replicate (n-s.length) 60
theorem qAt (s:List UInt8) (n:Nat):(wideS s n).length=max s.length n:=by simp [wideS];omega
def namesS (sur giv:List UInt8):List UInt8:=fillS sur++(if giv=[] then [] else [60,60]++fillS giv)
def namesF (sur giv:List UInt8) (w:Int):List UInt8×Int :=
 if nameL true sur=false∨nameL true giv=false∨sur=[] then ([],14)
 else if w < 1∨w > 64 then ([],2) else ((wideS (namesS sur giv) w.toNat).take w.toNat,0)
def leapR (y:Int):Bool:=decide (y.tmod 4=0)&&decide (y≠1900)
def longR (y m:Int):Int:=if m=4∨m=6∨m=9∨m=11 then 30 else if m=2 then (if leapR y=true then 29 else 28) else 31
theorem qCi (y m:Int):28≤longR y m∧longR y m≤31:=by unfold longR;split <;> (try split) <;> (try split) <;> omega
def yearsR:Nat→Int
 | 0=>0
 | k+1=>yearsR k+365+(if leapR (1900+(k:Int))=true then 1 else 0)
def monthsR (y:Int):Nat→Int
 | 0=>0
 | k+1=>monthsR y k+longR y ((k:Int)+1)
def ofF (y m d:Int):Int×Int:=if y < 1900∨y > 2099∨m < 1∨m > 12∨d < 1∨d > longR y m then (0,8) else (d-1+yearsR (y-1900).toNat+monthsR y (m-1).toNat,0)
theorem yearsR_range:∀ (k:Nat),0≤yearsR k∧yearsR k≤366*k
 | 0=>by simp [yearsR]
 | k+1=>by have:=yearsR_range k;rw [yearsR];split <;> omega
theorem monthsR_range (y:Int):∀ (k:Nat),0≤monthsR y k∧monthsR y k≤31*k
 | 0=>by simp [monthsR]
 | k+1=>by have:=monthsR_range y k;have:=qCi y ((k:Int)+1);rw [monthsR];omega
def isDig (c:UInt8):Bool:=decide (48≤bI c∧bI c≤57)
def pairI (s:List UInt8) (i:Nat):Int:=10*(bI (s.getD i 0)-48)+(bI (s.getD (i+1) 0)-48)
def dayParse (s:List UInt8) (first:Int):Int×Int :=
 if first < 1900∨first > 2000 then (0,3) else if s.length≠6 then (0,1) else if s.all isDig=false then (0,1)
 else let y:=first-first.tmod 100+pairI s 0
  ofF (if y < first then y+100 else y) (pairI s 2) (pairI s 4)
structure Zon where
 fmt:Int
 kind:List UInt8
 state:List UInt8
 sur:List UInt8
 giv:List UInt8
 num:List UInt8
 nat:List UInt8
 bir:List UInt8
 sex:List UInt8
 exp:List UInt8
 opt:List UInt8
 sec:List UInt8
def zCells (z:Zon):List AV:=[.d (.int .i64 z.fmt),.d (.str z.kind),.d (.str z.state),.d (.str z.sur),.d (.str z.giv),.d (.str z.num),.d (.str z.nat),.d (.str z.bir),.d (.str z.sex),.d (.str z.exp),.d (.str z.opt),.d (.str z.sec)]
def zAV (z:Zon):AV:=.agg (zCells z)
def isUp (c:UInt8):Bool:=decide (65≤bI c∧bI c≤90)
def lettersF (s:List UInt8) (most:Int):Bool:=decide (1≤s.length∧(s.length:Int)≤most)&&s.all isUp
def plainF (s:List UInt8):Bool:=s.all fun c=>decide (c≠60∧0≤valC (bI c))
def pairF (s:List UInt8):Int:=if s=[60,60] then -1 else if isDig (s.getD 0 0)=true∧isDig (s.getD 1 0)=true then pairI s 0 else -2
def birthF (s:List UInt8):Bool:=decide (s.length=6)&&(decide (pairF (s.take 2) > -2)&&(decide (pairF ((s.take 4).drop 2) = -1∨1≤pairF ((s.take 4).drop 2)∧pairF ((s.take 4).drop 2)≤12)&&decide (pairF (s.drop 4) = -1∨1≤pairF (s.drop 4)∧pairF (s.drop 4)≤31)))
def extraF (s:List UInt8):Bool:=validS s&&(decide (s=[])||(decide (s.head?≠some 60)&&decide (s.getLast?≠some 60)))
def roomF (z:Zon):Int:=(if z.fmt=1 then 15 else if z.fmt=2 then 7 else 14)-(if z.num.length > 9 then (z.num.length:Int)-9+2 else 0)
def mostN (f:Int):Int:=if f=1 then 20 else if f=2 then 14 else 9
def validZ (z:Zon):Int :=
 if z.fmt < 1∨z.fmt > 3∨lettersF z.kind 2=false∨lettersF z.state 3=false∨nameL true z.sur=false∨z.sur=[]∨nameL true z.giv=false∨z.num=[]∨plainF z.num=false then 14
 else if (z.num.length:Int) > mostN z.fmt then 2
 else if lettersF z.nat 3=false then 14
 else if birthF z.bir=false then 8
 else if z.sex≠[77]∧z.sex≠[70]∧z.sex≠[60] then 14
 else if (dayParse z.exp 2000).2≠0 then 8
 else if extraF z.opt=false∨extraF z.sec=false∨(z.sec≠[]∧z.fmt≠1) then 14
 else if (z.opt.length:Int) > roomF z∨(z.sec.length:Int) > 11 then 2
 else 0
def checkedS (s:List UInt8):List UInt8:=s++(digitF s).1
def numberS (n:List UInt8):List UInt8×List UInt8:=if n.length≤9 then (checkedS (wideS n 9),[]) else (n.take 9++[60],n.drop 9++(digitF n).1++[60])
def nameW (f:Int):Int:=if f=1 then 30 else if f=2 then 31 else 39
def cutS (s:List UInt8) (a b:Nat):List UInt8:=(s.take b).drop a
def buildZ (z:Zon):List (List UInt8) :=
 let head:=wideS z.kind 2++wideS z.state 3
 let names:=(namesF z.sur z.giv (nameW z.fmt)).1
 let bd:=checkedS z.bir
 let ed:=checkedS z.exp
 let nation:=wideS z.nat 3
 if z.fmt=1 then
  let a:=head++(numberS z.num).1++wideS ((numberS z.num).2++z.opt) 15
  let b:=bd++z.sex++ed++nation++wideS z.sec 11
  [a,b++(digitF (cutS a 5 30++cutS b 0 7++cutS b 8 15++cutS b 18 29)).1,names]
 else if z.fmt=2 then
  let b:=(numberS z.num).1++nation++bd++z.sex++ed++wideS ((numberS z.num).2++z.opt) 7
  [head++names,b++(digitF (cutS b 0 10++cutS b 13 20++cutS b 21 35)).1]
 else
  let o:=if z.opt=[] then [60] else (digitF (wideS z.opt 14)).1
  let b:=(numberS z.num).1++nation++bd++z.sex++ed++wideS z.opt 14++o
  [head++names,b++(digitF (cutS b 0 10++cutS b 13 20++cutS b 21 43)).1]
def buildF (z:Zon):List (List UInt8)×Int:=if validZ z≠0 then ([],validZ z) else (buildZ z,0)
end Tdoc
namespace Tdoc
open Go Go.Proofs
def tagTab:List Int:=[97,117,99,118,101,102,103,104,105,106,107,108,109,110,111,112,96,119]
def tagD:List Dat:=tagTab.map fun x=>.int .i64 x
def tagR (n:Int):Int×Int:=if n < 1∨n > 18 then (0,3) else ((tagTab[(n-1).toNat]?).getD 0,0)
def groupFrom (t:Int):Nat→List Int→Int×Int
 | _,[]=>(0,4)
 | i,x::r=>if x=t then (((i+1:Nat):Int),0) else groupFrom t (i+1) r
def groupR (t:Int):Int×Int:=groupFrom t 0 tagTab
theorem tagD_at {i:Nat} (h:i < 18):∃ x:Int,tagTab[i]?=some x∧(tagD.drop i)[0]?=some (.int .i64 x)∧tagTab.drop i=x::tagTab.drop (i+1):=by
 have h':i < tagTab.length:=by simpa [tagTab] using h
 exact ⟨tagTab[i],by simp [h'],by simp [tagD,h'],by simp [h']⟩
set_option maxRecDepth 100000 in
theorem Tag_spec (n:Int) (hw : -9223372036854775808≤n∧n≤9223372036854775807):Spec Tryz.prog 127 [.d (.int .i64 n)] [] (fun r h'=>r=.tup [.d (.int .i64 (tagR n).1),.d (.int .i64 (tagR n).2)]∧h'=[]):=by
 refine qAb hT Tryz.func127 rfl rfl rfl rfl ?_
 intro E hE
 refine ww ?_
 refine qAa rfl (fun h1=>?_) (fun h1=>?_)
 ·have h1':n < 1∨n > 18:=by simpa using h1
  rw [show tagR n=(0,3) by unfold tagR;rw [if_pos h1']]
  refine ww ?_
  exact qAg rfl (.refl _) rfl rfl rfl rfl ⟨rfl,rfl⟩
 ·have h1':¬ (n < 1∨n > 18):=by simpa using h1
  have hwr:IntKind.i64.wrap (n-1)=n-1:=qAe (by omega)
  obtain ⟨x,hx,hd,_⟩:=tagD_at (i:=(n-1).toNat) (by omega)
  rw [show tagR n=(x,0) by unfold tagR;rw [if_neg h1',hx];rfl]
  refine ww ?_
  refine qAd (qAc (arrAddr_ok (cs:=tagD) hT rfl rfl rfl rfl (by rw [hwr];omega))) rfl ?_
  rw [hwr,Nat.mul_one]
  generalize tagD.drop (n-1).toNat=cs at hd
  match cs,hd with
  | d::cs,hd =>
   simp only [List.getElem?_cons_zero,Option.some.injEq] at hd
   subst hd
   refine ww ?_
   exact qAg rfl (.refl _) rfl rfl rfl rfl ⟨rfl,rfl⟩
set_option maxHeartbeats 2000000 in
set_option maxRecDepth 100000 in
theorem Group_spec (t:Int):Spec Tryz.prog 59 [.d (.int .i64 t)] [] (fun r h'=>r=.tup [.d (.int .i64 (groupR t).1),.d (.int .i64 (groupR t).2)]∧h'=[]):=by
 refine qAb hT Tryz.func59 rfl rfl rfl rfl ?_
 intro E hE
 unfold groupR
 generalize hfin:groupFrom t 0 tagTab=fin
 refine ww ?_
 refine qAq (ι:=Nat) (fun i=>[(0,.d (.int .i64 t)),(6,.agg (tagD.map .d)),(7,.d (.int .i64 (i:Int)))]) (fun _=>[]) (fun i=>i≤18∧groupFrom t i (tagTab.drop i)=fin) (fun i=>18-i) 0 ⟨by omega,hfin⟩
  ⟨.refl _,.refl _,.refl _,trivial⟩ (HLe.refl _) ?_
 intro i ⟨hi,hg⟩
 have hwr:IntKind.i64.wrap ((i:Int)+1)=((i+1:Nat):Int):=by rw [qAe (by omega)];simp
 refine ww ?_
 refine qAa rfl (fun h1=>?_) (fun h1=>?_)
 ·have hlt:i < 18:=by have h3:(i:Int) < 18:=by simpa using h1
                      omega
  obtain ⟨x,hx,_,hd⟩:=tagD_at hlt
  rw [hd,groupFrom] at hg
  have hxa:(tagD.map AV.d)[((i:Int)).toNat]?=some (.d (.int .i64 x)):=by simp [tagD,hx]
  refine ww ?_
  refine qAd (qAc (arrIdx_ok (cs:=tagD.map AV.d) hT rfl rfl rfl rfl (by omega) hxa)) rfl ?_
  refine ww ?_
  refine qAa rfl (fun h2=>?_) (fun h2=>?_)
  ·have h2':x=t:=by simpa using h2
   rw [if_pos h2',← hwr] at hg
   subst hg
   refine ww ?_
   exact qAg rfl (.refl _) rfl rfl rfl rfl ⟨rfl,rfl⟩
  ·have h2':¬ x=t:=by simpa using h2
   rw [if_neg h2'] at hg
   refine ww ?_
   exact ⟨i+1,⟨by omega,hg⟩,by omega,⟨.refl _,.refl _,AV.le.eq (by show AV.d (.int .i64 (IntKind.i64.wrap ((i:Int)+1)))=_;rw [hwr]),trivial⟩,HLe.refl _⟩
 ·have hge:i=18:=by simp at h1;omega
  subst hge
  subst hg
  refine ww ?_
  exact qAg rfl (.refl _) rfl rfl rfl rfl ⟨rfl,rfl⟩
end Tdoc
namespace Tdoc
open Go Go.Proofs
theorem andE (k:Nat) {n m:Nat} (hn:n < 9223372036854775808) (hm:m < 9223372036854775808) {q:Int} (hq:q=(m:Int)) :
  IntKind.i64.wrap ((BitVec.ofInt IntKind.i64.bits (n:Int) &&& BitVec.ofInt IntKind.i64.bits q).toNat:Int)=((n &&& m:Nat):Int):=by
 subst hq;exact and_nat hn hm
set_option maxRecDepth 100000 in
theorem long_spec (t:Int) (h0:0≤t) (h1:t≤9223372036854775807):Spec Tryz.prog 228 [.d (.int .i64 t)] [] (fun r h'=>r=.d (.bool (t % 32 == 31))∧h'=[]):=by
 obtain ⟨n,rfl⟩:=Int.eq_ofNat_of_zero_le h0
 have hand:=andE 0 (n:=n) (m:=31) (q:=31) (by omega) (by omega) rfl
 have hm:=mask_nat n 5
 have e:((n:Int) % 32 == 31)=(IntKind.i64.wrap ((BitVec.ofInt IntKind.i64.bits (n:Int) &&& BitVec.ofInt IntKind.i64.bits 31).toNat:Int) == 31):=by
  rw [hand,show n &&& 31=n % 32 from hm];rfl
 rw [e]
 refine qAb hT Tryz.func228 rfl rfl rfl rfl ?_
 intro E hE
 refine ww ?_
 exact qAg rfl (.refl _) rfl rfl rfl rfl ⟨rfl,rfl⟩
set_option maxHeartbeats 2000000 in
set_option maxRecDepth 100000 in
theorem Valid_spec (t:Int) (hw : -9223372036854775808≤t∧t≤9223372036854775807):Spec Tryz.prog 159 [.d (.int .i64 t)] [] (fun r h'=>r=.d (.bool (tagOk t))∧h'=[]):=by
 refine qAb hT Tryz.func159 rfl rfl rfl rfl ?_
 intro E hE
 refine ww ?_
 refine qAa rfl (fun h1=>?_) (fun h1=>?_)
 ·have h1':t < 256:=by simpa using h1
  have hl:=fun (h:0≤t)=>long_spec t h (by omega)
  refine ww ?_
  refine qBq rfl rfl rfl (fun hg=>⟨by first | exact True.intro | exact ⟨hg,True.intro⟩ | exact ⟨hg,hg,True.intro⟩,callS0 rfl rfl (hl (by simp [gval] at hg;omega)) rfl rfl rfl⟩) ?_
  refine ww ?_
  refine qAg rfl (.refl _) rfl rfl rfl rfl ⟨congrArg (fun b=>AV.d (.bool b)) ?_,rfl⟩
  unfold tagOk
  rw [if_pos h1']
 ·have h1':¬ t < 256:=by simpa using h1
  obtain ⟨n,rfl⟩:=Int.eq_ofNat_of_zero_le (show 0≤t by omega)
  have hshr:Int.fdiv (n:Int) (2 ^ (min (8:Int).toNat IntKind.i64.bits))=((n / 256:Nat):Int):=shr_nat n 8
  have hand:=andE 0 (n:=n) (m:=255) (q:=255) (by omega) (by omega) rfl
  rw [show n &&& 255=n % 256 from mask_nat n 8] at hand
  have hl:=long_spec ((n / 256:Nat):Int) (by omega) (by omega)
  rw [← hshr] at hl
  refine ww ?_
  refine qBq rfl rfl rfl (fun hg=>⟨by first | exact True.intro | exact ⟨hg,True.intro⟩ | exact ⟨hg,hg,True.intro⟩,callS0 rfl rfl hl rfl rfl rfl⟩) ?_
  refine ww ?_
  refine qAg rfl (.refl _) rfl rfl rfl rfl ⟨congrArg (fun b=>AV.d (.bool b)) ?_,rfl⟩
  rw [hshr,hand]
  unfold tagOk
  rw [if_neg h1',Bool.eq_iff_iff]
  simp
  omega
set_option maxHeartbeats 2000000 in
set_option maxRecDepth 100000 in
theorem qCr (t:Int) (hw : -9223372036854775808≤t∧t≤9223372036854775807):Spec Tryz.prog 92 [.d (.int .i64 t)] [] (fun r h'=>r=.d (.bool (tagCons t))∧h'=[]):=by
 have hv:=Valid_spec t hw
 refine qAb hT Tryz.func92 rfl rfl rfl rfl ?_
 intro E hE
 unfold tagCons
 have hr:=tagOk_range (t:=t)
 generalize tagOk t=ok at hv hr
 refine ww ?_
 refine qAd (callS0 rfl rfl hv rfl rfl rfl) rfl ?_
 refine ww ?_
 refine qAa rfl (fun h1=>?_) (fun h1=>?_)
 ·have h1':ok=false:=by simpa using h1
  subst h1'
  refine ww ?_
  exact qAg rfl (.refl _) rfl rfl rfl rfl ⟨rfl,rfl⟩
 ·have h1':ok=true:=by simpa using h1
  obtain ⟨n,rfl⟩:=Int.eq_ofNat_of_zero_le (show 0≤t by have:=hr h1';omega)
  have hn:=hr h1'
  subst h1'
  have hbit:∀ m:Nat,m < 9223372036854775808→(IntKind.i64.wrap ((BitVec.ofInt IntKind.i64.bits (m:Int) &&& BitVec.ofInt IntKind.i64.bits 32).toNat:Int) != 0)=((m:Int) / 32 % 2 == 1):=fun m hm=>by
   rw [andE 0 (n:=m) (m:=32) (q:=32) hm (by omega) rfl,show m &&& 32=32*(m / 32 % 2) from bit_nat m 5,Bool.eq_iff_iff]
   simp
   omega
  refine ww ?_
  refine qAa rfl (fun h2=>?_) (fun h2=>?_)
  ·have h2':(n:Int) > 255:=by simpa using h2
   have hshr:Int.fdiv (n:Int) (2 ^ (min (8:Int).toNat IntKind.i64.bits))=((n / 256:Nat):Int):=shr_nat n 8
   refine ww ?_
   refine qAg rfl (.refl _) rfl rfl rfl rfl ⟨congrArg (fun b=>AV.d (.bool b)) ?_,rfl⟩
   rw [hshr,hbit _ (by omega),if_pos h2']
   rfl
  ·have h2':¬ (n:Int) > 255:=by simpa using h2
   refine ww ?_
   refine qAg rfl (.refl _) rfl rfl rfl rfl ⟨congrArg (fun b=>AV.d (.bool b)) ?_,rfl⟩
   rw [hbit _ (by omega),if_neg h2']
   rfl
end Tdoc
set_option maxHeartbeats 8000000
set_option maxRecDepth 100000
namespace Tdoc
open Go Go.Proofs
mutual
def fitN:Node→Prop
 | .mk t v k=>(-9223372036854775808≤t∧t≤9223372036854775807)∧v.length≤1000000000∧k.length≤1000000000∧fitL k
def fitL:List Node→Prop
 | []=>True
 | a::l=>fitN a∧fitL l
end
theorem fitL_at:∀ {l:List Node},fitL l→∀ n,n∈l→fitN n
 | [],_,n,h=>by cases h
 | a::l,h,n,hn=>by
  cases hn with
  | head=>exact h.1
  | tail _ hn=>exact fitL_at h.2 n hn
theorem sizeL_drop:∀ (l:List Node) (i:Nat) (h:i < l.length),sizeL (l.drop i)=sizeN l[i]+sizeL (l.drop (i+1))
 | a::l,0,_=>rfl
 | a::l,i+1,h=>by simpa using sizeL_drop l i (by simpa using h)
theorem sizeL_drop_le:∀ (l:List Node) (i:Nat),sizeL (l.drop i)≤sizeL l
 | [],i=>by simp
 | a::l,0=>Nat.le_refl _
 | a::l,i+1=>by have:=sizeL_drop_le l i;simp only [List.drop_succ_cons,sizeL];omega
theorem len_pos {α:Type} (l:List α):decide ((l.length:Int) > 0)=true↔l≠[]:=by
 cases l with
 | nil=>simp
 | cons a l=>simp
theorem check_spec:∀ (n d:Nat) (l:List Node) (c:Nat),sizeL l≤n→fitL l→l.length≤1000000000→d≤1000→c+sizeL l≤1000000000000 →
  Spec Tryz.prog 160 [.d (.sl 3 (encNs l)),.d (.int .i64 (d:Int)),.ptr 0 0] [.row [.d (.int .i64 (c:Int))]] (fun r h'=>r=.d (.int .i64 (chkL d l c).1)∧h'=[.row [.d (.int .i64 ((chkL d l c).2:Int))]]):=by
 intro n
 induction n using Nat.strongRecOn with
 | _ n ih =>
 intro d l c hsz hf hl hd hc
 have hlen:=qAm l
 refine qAb hT Tryz.func160 rfl rfl rfl rfl ?_
 intro E hE
 generalize hfin:chkL d l c=fin
 refine ww ?_
 refine qBu (ι:=Nat×Nat) (fun x=>[(1,.d (.int .i64 (d:Int))),(2,.ptr 0 0),(11,.d (.sl 3 (encNs l))),(12,.d (.int .i64 (encNs l).length)),(13,.d (.int .i64 (x.1:Int)))]) (fun x=>[.row [.d (.int .i64 (x.2:Int))]])
  (fun x=>x.1≤l.length∧x.2+sizeL (l.drop x.1)≤1000000000000∧chkL d (l.drop x.1) x.2=fin) (fun x=>l.length-x.1) (0,c) ⟨by simp,by simpa using hc,by simpa using hfin⟩
  ⟨.refl _,.refl _,.refl _,.refl _,.refl _,trivial⟩ (HLe.refl _) ?_
 rintro ⟨i,ci⟩ ⟨hi,hci,hg⟩
 simp only at hi hci hg ⊢
 have hwr:IntKind.i64.wrap ((i:Int)+1)=((i+1:Nat):Int):=by rw [qAe (by omega)];simp
 have hwc:IntKind.i64.wrap ((ci:Int)+1)=((ci+1:Nat):Int):=by rw [qAe (by omega)];simp
 refine ww ?_
 refine qAa rfl (fun h1=>?_) (fun h1=>?_)
 ·have hlt:i < l.length:=by rw [hlen] at h1;simpa using h1
  have hdrop:l.drop i=l[i]::l.drop (i+1):=by simp
  have hel:(encNs l)[((i:Int)).toNat]?=some (encN l[i]):=by simp [encNs_eq,hlt]
  have hsd:=sizeL_drop l i hlt
  have hsl:=sizeL_drop_le l i
  have hfi:=fitL_at hf l[i] (List.getElem_mem hlt)
  rw [hdrop,chkL] at hg
  generalize l[i]=x at hel hsd hfi hg
  obtain ⟨t,v,k⟩:=x
  rw [encN] at hel
  have hv:=Valid_spec t hfi.1
  have hcon:=qCr t hfi.1
  have hkl:=qAm k
  have hvl:=qAl v
  have hsk:sizeN (.mk t v k)=1+sizeL k:=by rw [sizeN]
  rw [chkN] at hg
  refine ww ?_
  refine qAd (qAc (qAi hT rfl rfl rfl rfl (by omega) hel)) rfl ?_
  refine ww ?_
  refine qAd (callS0 rfl rfl hcon rfl rfl rfl) rfl ?_
  refine ww ?_
  refine qAd (callS0 rfl rfl hv rfl rfl rfl) rfl ?_
  refine ww ?_
  refine qAa rfl (fun h2=>?_) (fun h2=>?_)
  ·have h2':tagOk t=false:=by simpa using h2
   simp only [if_pos h2',show ¬ (4:Int)=0 by omega,if_false] at hg
   subst hg
   rw [← hwc]
   refine ww ?_
   exact qAg rfl (.refl _) rfl rfl rfl rfl ⟨rfl,rfl⟩
  ·have h2':¬ tagOk t=false:=by simpa using h2
   simp only [if_neg h2'] at hg
   clear hv hcon
   generalize hcn:tagCons t=con at hg
   refine ww ?_
   refine qAa rfl (fun h3=>?_) (fun h3=>?_)
   ·have h3':con=false∧k≠[]:=by
     rw [Bool.and_eq_true,hkl,len_pos] at h3
     exact ⟨by simpa using h3.1,h3.2⟩
    have hp:(con=false∧k≠[])∨(con=true∧v≠[]):=.inl h3'
    simp only [if_pos hp,show ¬ (1:Int)=0 by omega,if_false] at hg
    subst hg
    rw [← hwc]
    refine ww ?_
    refine qAa rfl (fun h4=>?_) (fun h4=>by rw [h3] at h4;cases h4)
    refine ww ?_
    exact qAg rfl (.refl _) rfl rfl rfl rfl ⟨rfl,rfl⟩
   ·have h3':¬ (con=false∧k≠[]):=fun hh=>by
     have:(!con&&decide ((k.length:Int) > 0))=true:=by rw [Bool.and_eq_true,len_pos];exact ⟨by simp [hh.1],hh.2⟩
     rw [hkl,this] at h3;cases h3
    refine ww ?_
    refine qAa rfl (fun h4=>?_) (fun h4=>?_)
    ·have h4':con=true∧v≠[]:=by
      rw [Bool.and_eq_true,hvl,len_pos] at h4
      exact h4
     have hp:(con=false∧k≠[])∨(con=true∧v≠[]):=.inr h4'
     simp only [if_pos hp,show ¬ (1:Int)=0 by omega,if_false] at hg
     subst hg
     rw [← hwc]
     refine ww ?_
     exact qAg rfl (.refl _) rfl rfl rfl rfl ⟨rfl,rfl⟩
    ·have h4':¬ (con=true∧v≠[]):=fun hh=>by
      have:(con&&decide ((v.length:Int) > 0))=true:=by rw [Bool.and_eq_true,len_pos];exact hh
      rw [hvl,this] at h4;cases h4
     have hp:¬ ((con=false∧k≠[])∨(con=true∧v≠[])):=fun hh=>hh.elim h3' h4'
     simp only [if_neg hp] at hg
     refine ww ?_
     refine qAa rfl (fun h5=>?_) (fun h5=>?_)
     ·have h5':8 < d:=by simp at h5;omega
      simp only [if_pos h5',show ¬ (7:Int)=0 by omega,if_false] at hg
      subst hg
      rw [← hwc]
      refine ww ?_
      exact qAg rfl (.refl _) rfl rfl rfl rfl ⟨rfl,rfl⟩
     ·have h5':¬ 8 < d:=by simp at h5;omega
      simp only [if_neg h5'] at hg
      have hwd:IntKind.i64.wrap ((d:Int)+1)=((d+1:Nat):Int):=by rw [qAe (by omega)];simp
      have hrec:=ih (sizeL k) (by omega) (d+1) k (ci+1) (Nat.le_refl _) hfi.2.2.2 hfi.2.2.1 (by omega) (by omega)
      have hcnt:=qDu (d+1) k (ci+1)
      rw [← hwc,← hwd] at hrec
      generalize chkL (d+1) k (ci+1)=q at hrec hcnt hg
      obtain ⟨e,c2⟩:=q
      simp only at hrec hcnt hg
      refine ww ?_
      refine qAd (callS1 rfl rfl hrec [0] (by decide) rfl rfl rfl rfl rfl rfl rfl) rfl ?_
      refine ww ?_
      refine qAa rfl (fun h6=>?_) (fun h6=>?_)
      ·have h6':¬ e=0:=by simpa using h6
       rw [if_neg h6'] at hg
       subst hg
       refine ww ?_
       exact qAg rfl (.refl _) rfl rfl rfl rfl ⟨rfl,rfl⟩
      ·have h6':e=0:=by simpa using h6
       rw [if_pos h6'] at hg
       have hc2:=hcnt.2 h6'
       refine ww ?_
       exact ⟨(i+1,c2),[_],⟨by simp only;omega,by simp only;omega,hg⟩,by simp only;omega,⟨.refl _,.refl _,.refl _,.refl _,AV.le.eq (by show AV.d (.int .i64 (IntKind.i64.wrap ((i:Int)+1)))=_;rw [hwr]),trivial⟩,HLe.refl _,hE,rfl,rfl⟩
 ·have hge:i=l.length:=by rw [hlen] at h1;simp at h1;omega
  subst hge
  simp only [List.drop_length,chkL] at hg
  subst hg
  refine ww ?_
  exact qAg rfl (.refl _) rfl rfl rfl rfl ⟨rfl,rfl⟩
end Tdoc
namespace Tdoc
open Go Go.Proofs
def revAt (cells:List AV) (i:Nat):List AV:=(List.range cells.length).map fun k=>(cells[if k < i∨cells.length-i≤k then cells.length-1-k else k]?).getD .any
theorem qCl (cells:List AV) (i:Nat):(revAt cells i).length=cells.length:=by simp [revAt]
theorem revAt_zero (cells:List AV):revAt cells 0=cells:=by
 apply List.ext_getElem?
 intro k
 by_cases h:k < cells.length
 ·simp only [revAt,List.getElem?_map,List.getElem?_range h,Option.map_some]
  rw [if_neg (by omega)]
  simp [h]
 ·rw [List.getElem?_eq_none (by rw [qCl];omega),List.getElem?_eq_none (by omega)]
theorem revAt_at {cells:List AV} {i k:Nat} (h:k < cells.length):(revAt cells i)[k]?=cells[if k < i∨cells.length-i≤k then cells.length-1-k else k]?:=by
 simp only [revAt,List.getElem?_map,List.getElem?_range h,Option.map_some]
 have hlt:(if k < i∨cells.length-i≤k then cells.length-1-k else k) < cells.length:=by split <;> omega
 rw [List.getElem?_eq_getElem hlt];rfl
theorem revAt_half {cells:List AV} {i:Nat} (h:cells.length≤2*i+1) (hi:2*i≤cells.length):revAt cells i=cells.reverse:=by
 apply List.ext_getElem?
 intro k
 by_cases hk:k < cells.length
 ·rw [revAt_at hk,List.getElem?_reverse hk]
  split
  ·rfl
  ·congr 1;omega
 ·rw [List.getElem?_eq_none (by rw [qCl];omega),List.getElem?_eq_none (by simp;omega)]
theorem revAt_succ {cells:List AV} {i:Nat} (h:2*i+1 < cells.length) {x y:AV} (hx:(revAt cells i)[cells.length-1-i]?=some x) (hy:(revAt cells i)[i]?=some y) :
  ((revAt cells i).set i x).set (cells.length-1-i) y=revAt cells (i+1):=by
 rw [revAt_at (by omega),if_neg (by omega)] at hx hy
 apply List.ext_getElem?
 intro k
 by_cases hk:k < cells.length
 ·rw [revAt_at hk,List.getElem?_set,List.getElem?_set]
  simp only [List.length_set,qCl]
  by_cases h1:cells.length-1-i=k
  ·rw [if_pos h1,if_pos (by omega),if_pos (by omega),← hy];congr 1;omega
  ·rw [if_neg h1]
   by_cases h2:i=k
   ·rw [if_pos h2,if_pos (by omega),if_pos (by omega),← hx];congr 1;omega
   ·rw [if_neg h2,revAt_at hk]
    congr 1
    by_cases h3:k < i∨cells.length-i≤k
    ·rw [if_pos h3,if_pos (by omega)]
    ·rw [if_neg h3,if_neg (by omega)]
 ·rw [List.getElem?_eq_none (by simp [qCl];omega),List.getElem?_eq_none (by rw [qCl];omega)]
theorem lowL_of {k:Nat}:∀ {l:List AV},(∀ c,c∈l→low k c=true)→lowL k l=true
 | [],_=>rfl
 | a::l,h=>by simp only [lowL,Bool.and_eq_true];exact ⟨h a (by simp),lowL_of fun c hc=>h c (by simp [hc])⟩
set_option maxHeartbeats 4000000 in
set_option maxRecDepth 100000 in
theorem Reverse_spec (cells:List AV) (hl:cells.length≤1000000000) (hsc:∀ c,c∈cells→scalarA c=true) (hlow:∀ c,c∈cells→low 1 c=true) :
  Spec Tryz.prog 262 [.bm 0 cells.length] [.buf 1 cells.length cells] (fun r h'=>r=.tup []∧h'=[.buf 1 cells.length cells.reverse]):=by
 refine qAb hT Tryz.func262 rfl rfl rfl rfl ?_
 intro E hE
 generalize hn:cells.length=n at hl
 have hw1:IntKind.i64.wrap ((n:Int)-1)=(n:Int)-1:=qAe (by omega)
 refine ww ?_
 refine qAq (ι:=Nat) (fun i=>[(0,.bm 0 n),(2,.d (.int .i64 (i:Int))),(3,.d (.int .i64 ((n:Int)-1-i)))]) (fun i=>[.buf 1 n (revAt cells i)]) (fun i=>2*i≤n+1∧(2*i≤n∨i=0)) (fun i=>n-i) 0 (by omega)
  ⟨.refl _,.refl _,AV.le.eq (by show AV.d (.int .i64 (IntKind.i64.wrap ((n:Int)-1)))=_;rw [hw1];simp),trivial⟩ ⟨⟨rfl,rfl,by rw [revAt_zero];exact AllLe.refl _⟩,trivial⟩ ?_
 intro i ⟨hi,hi2⟩
 have hwr:IntKind.i64.wrap ((i:Int)+1)=((i+1:Nat):Int):=by rw [qAe (by omega)];simp
 have hwr2:IntKind.i64.wrap ((n:Int)-1-i-1)=(n:Int)-1-((i+1:Nat):Int):=by rw [qAe (by omega)];omega
 refine ww ?_
 refine qAa rfl (fun h1=>?_) (fun h1=>?_)
 ·have h1':(i:Int) < (n:Int)-1-i:=by simpa using h1
  have hjn:((n:Int)-1-i).toNat=n-1-i:=by omega
  obtain ⟨x,hx⟩:∃ x,(revAt cells i)[n-1-i]?=some x:=⟨(revAt cells i)[n-1-i]'(by rw [qCl];omega),by simp⟩
  obtain ⟨y,hy⟩:∃ y,(revAt cells i)[i]?=some y:=⟨(revAt cells i)[i]'(by rw [qCl];omega),by simp⟩
  have hxs:scalarA x=true:=by
   rw [revAt_at (by omega)] at hx;exact hsc x (List.mem_of_getElem? hx)
  have hys:scalarA y=true:=by
   rw [revAt_at (by omega)] at hy;exact hsc y (List.mem_of_getElem? hy)
  have hsucc:=revAt_succ (cells:=cells) (i:=i) (by omega) (x:=x) (y:=y) (by rw [hn];exact hx) hy
  rw [hn] at hsucc
  have hlr:(revAt cells i).length=n:=by rw [qCl,hn]
  generalize revAt cells i=rc at hx hy hsucc hlr
  have hlo1:((i:Int)).toNat*1 < rc.length:=by rw [Nat.mul_one,Int.toNat_natCast,hlr];omega
  have hlo2:((n:Int)-1-i).toNat*1 < (rc.set (((i:Int)).toNat*1) x).length:=by rw [Nat.mul_one,hjn,List.length_set,hlr];omega
  refine wwn ?_
  refine qBg (fun i=>bif Nat.beq i 7||Nat.beq i 11||Nat.beq i 13||Nat.beq i 15 then [0] else []) (fun i=>bif Nat.beq i 13||Nat.beq i 15 then [0] else []) mixed (by kernel_rfl) ?_
  refine wwg ?_
  refine qAs (os:=[]) (fun k hk1 hk2=>qAc (qBe (sz:=1) hT rfl rfl rfl rfl (by omega))) rfl ?_
  refine qAs (v:=x) (os:=[]) (fun k hk1 hk2=>qBl hT rfl rfl ((hk2 0 List.mem_cons_self).trans rfl) rfl rfl (by rw [Nat.mul_one,hjn];exact hx)) rfl ?_
  refine wwg ?_
  refine qAs (os:=[]) (fun k hk1 hk2=>qAc (qBe (sz:=1) hT rfl rfl rfl rfl (by omega))) rfl ?_
  refine qAs (v:=y) (os:=[]) (fun k hk1 hk2=>qBl hT rfl rfl ((hk2 0 List.mem_cons_self).trans rfl) rfl rfl (by rw [Nat.mul_one,Int.toNat_natCast];exact hy)) rfl ?_
  refine qAs (os:=[]) (fun k hk1 hk2=>qAc (qBe (sz:=1) hT rfl rfl rfl rfl (by omega))) rfl ?_
  refine qAs (v:=.any) (os:=[.buf 1 n (rc.set (((i:Int)).toNat*1) x)]) (fun k hk1 hk2=>bufStoreE hT rfl rfl rfl ((hk2 0 List.mem_cons_self).trans rfl) rfl rfl hxs hlo1 rfl) rfl ?_
  refine qAs (os:=[]) (fun k hk1 hk2=>qAc (qBe (sz:=1) hT rfl rfl rfl rfl (by omega))) rfl ?_
  refine qAs (v:=.any) (os:=[.buf 1 n ((rc.set (((i:Int)).toNat*1) x).set (((n:Int)-1-i).toNat*1) y)]) (fun k hk1 hk2=>bufStoreE hT rfl rfl rfl ((hk2 0 List.mem_cons_self).trans rfl) rfl rfl hys hlo2 rfl) rfl ?_
  have e:(rc.set (((i:Int)).toNat*1) x).set (((n:Int)-1-i).toNat*1) y=revAt cells (i+1):=by rw [Nat.mul_one,Nat.mul_one,hjn,Int.toNat_natCast];exact hsucc
  refine wwg ?_
  refine ww ?_
  exact ⟨i+1,by omega,by omega,⟨.refl _,AV.le.eq (by show AV.d (.int .i64 (IntKind.i64.wrap ((i:Int)+1)))=_;rw [hwr]),AV.le.eq (by show AV.d (.int .i64 (IntKind.i64.wrap ((n:Int)-1-i-1)))=_;rw [hwr2]),trivial⟩,⟨⟨rfl,rfl,e▸AllLe.refl _⟩,trivial⟩⟩
 ·have h1':¬ (i:Int) < (n:Int)-1-i:=by simpa using h1
  have hfin:revAt cells i=cells.reverse:=by
   rcases hi2 with h | h
   ·exact revAt_half (by omega) (by omega)
   ·subst h
    rw [revAt_zero]
    have hn1:cells.length≤1:=by omega
    match cells,hn1 with
    | [],_=>rfl
    | [a],_=>rfl
  rw [hfin]
  refine ww ?_
  exact ret_exactN rfl (.refl _) rfl rfl rfl (by show (lowL 1 cells.reverse&&true)=true;rw [Bool.and_true];exact lowL_of fun c hc=>hlow c (List.mem_reverse.1 hc)) ⟨rfl,rfl⟩
end Tdoc
namespace Tdoc
open Go Go.Proofs
theorem qBy (s:List UInt8):(byteAV s).length=s.length:=by simp [byteAV]
theorem byteAV_append (a b:List UInt8):byteAV (a++b)=byteAV a++byteAV b:=by simp [byteAV]
theorem byteAV_reverse (a:List UInt8):(byteAV a).reverse=byteAV a.reverse:=by simp [byteAV,List.map_reverse]
theorem byteAV_scalar {s:List UInt8} {c:AV} (h:c∈byteAV s):scalarA c=true:=by
 simp only [byteAV,List.mem_map] at h
 obtain ⟨b,_,rfl⟩:=h;rfl
theorem byteAV_low {k:Nat} {s:List UInt8} {c:AV} (h:c∈byteAV s):low k c=true:=by
 simp only [byteAV,List.mem_map] at h
 obtain ⟨b,_,rfl⟩:=h;rfl
theorem qBr (k:Nat) (s:List UInt8):lowL k (byteAV s)=true:=lowL_of fun c hc=>byteAV_low hc
theorem lowH_bytes (k n:Nat) (s:List UInt8):lowH k [.buf 1 n (byteAV s)]=true:=by show (lowL k (byteAV s)&&true)=true;rw [Bool.and_true];exact qBr k s
theorem RowDat_bytes (s:List UInt8):RowDat (byteAV s) 0 1 (encB s):=by
 refine ⟨fun e he=>?_,fun i e j d he hd=>?_⟩
 ·simp only [encB,List.mem_map] at he
  obtain ⟨b,_,rfl⟩:=he;rfl
 ·simp only [encB,List.getElem?_map,Option.map_eq_some_iff] at he
  obtain ⟨b,hb,rfl⟩:=he
  cases j with
  | zero=>simp at hd;subst hd;exact ⟨.d (.int .u8 (b.toNat:Int)),by simp [byteAV,hb],rfl⟩
  | succ j=>simp at hd
theorem toNat_ofNat {n:Nat} (h:n < 256):(UInt8.ofNat n).toNat=n:=by simp;omega
set_option maxHeartbeats 4000000 in
set_option maxRecDepth 100000 in
theorem length_spec (n:Nat) (hn:n≤1000000000000):Spec Tryz.prog 229 [.d (.int .i64 (n:Int))] [] (fun r h'=>r=.d (.sl 1 (encB (lenB n)))∧h'=[]):=by
 refine qAb hT Tryz.func229 rfl rfl rfl rfl ?_
 intro E hE
 refine ww ?_
 refine qAa rfl (fun h1=>?_) (fun h1=>?_)
 ·have h1':n < 128:=by simp at h1;omega
  have hw8:IntKind.u8.wrap (n:Int)=((UInt8.ofNat n).toNat:Int):=by rw [toNat_ofNat (by omega)];exact wrapu8 (by omega)
  have hL:lenB n=[UInt8.ofNat n]:=by unfold lenB;rw [if_pos h1']
  rw [hL,show encB [UInt8.ofNat n]=[[.int .u8 (IntKind.u8.wrap (n:Int))]] by rw [hw8];rfl]
  refine ww ?_
  exact qAg rfl AV.le.dat rfl rfl rfl rfl ⟨rfl,rfl⟩
 ·have h1':¬ n < 128:=by simp at h1;omega
  have hL:lenB n=UInt8.ofNat (128+(digs 8 n).length)::digs 8 n:=by unfold lenB;rw [if_neg h1']
  have hdl:=digL_length 8 n
  generalize hfull:digL 8 n=full at hdl
  have hL2:lenB n=(full++[UInt8.ofNat (128+full.length)]).reverse:=by rw [hL,digs,hfull];simp
  rw [hL2]
  refine qAo ?_
  refine wwe ?_
  refine qAu (qAn ?_)
  refine wws ?_
  refine AW_bufOf 3 1 0 (.inr rfl) rfl rfl ?_
  refine ww ?_
  refine qAq (ι:=List UInt8×Nat×Nat) (fun x=>[(0,.d (.int .i64 (x.2.2:Int))),(3,.bm 0 x.1.length)]) (fun x=>[.buf 1 x.1.length (byteAV x.1)])
   (fun x=>x.1.length+x.2.1≤8∧x.2.2 < 256 ^ x.2.1∧x.2.2≤1000000000000∧x.1++digL x.2.1 x.2.2=full) (fun x=>x.2.1) ([],8,n) ⟨by simp,by simp only;omega,hn,by simpa using hfull⟩ ⟨.refl _,.refl _,trivial⟩ (HLe.refl _) ?_
  rintro ⟨acc,m,k⟩ ⟨j1,j2,j3,j4⟩
  simp only at j1 j2 j3 j4 ⊢
  refine ww ?_
  refine qAa rfl (fun h2=>?_) (fun h2=>?_)
  ·have h2':0 < k:=by simp at h2;omega
   obtain ⟨m,rfl⟩:∃ m',m=m'+1:=⟨m-1,by
    rcases Nat.eq_zero_or_pos m with h0 | h0
    ·subst h0;simp at j2;omega
    ·omega⟩
   rw [digL,if_neg (by omega)] at j4
   have hshr:Int.fdiv (k:Int) (2 ^ (min (8:Int).toNat IntKind.i64.bits))=((k / 256:Nat):Int):=shr_nat k 8
   have hb:IntKind.u8.wrap (k:Int)=((UInt8.ofNat (k % 256)).toNat:Int):=by rw [wrapu8_mod,toNat_ofNat (Nat.mod_lt _ (by omega))];simp
   refine ww ?_
   refine AWk_opF (bufApp_ok hT rfl rfl rfl rfl rfl rfl (by show (acc.length+1)*(1+1)≤_;omega)) rfl rfl ?_
   refine ww ?_
   refine ⟨(acc++[UInt8.ofNat (k % 256)],m,k / 256),⟨by simp only [List.length_append,List.length_singleton];omega,by rw [Nat.pow_succ] at j2;simp only;omega,by simp only;omega,by simpa using j4⟩,by simp only;omega,⟨AV.le.eq ?_,AV.le.eq ?_,trivial⟩,⟨⟨rfl,?_,?_⟩,trivial⟩⟩
   ·show AV.d (.int .i64 (Int.fdiv (k:Int) (2 ^ (min (8:Int).toNat IntKind.i64.bits))))=_
    rw [hshr]
   ·simp;rfl
   ·simp
   ·rw [byteAV_append]
    show AllLe (byteAV acc++[AV.d (.int .u8 (IntKind.u8.wrap (k:Int)))]) _
    rw [hb]
    exact AllLe.refl _
  ·have h2':k=0:=by simp at h2;omega
   subst h2'
   rw [digL_zero,List.append_nil] at j4
   subst j4
   have hor:IntKind.u8.wrap ((BitVec.ofInt IntKind.u8.bits 128 ||| BitVec.ofInt IntKind.u8.bits (IntKind.u8.wrap (acc.length:Int))).toNat:Int)=((UInt8.ofNat (128+acc.length)).toNat:Int):=by
    rw [wrapu8 (n:=(acc.length:Int)) (by omega),toNat_ofNat (by omega)]
    have:=or_nat8 (a:=128) (b:=acc.length) (by omega) (by omega)
    rw [show (128 ||| acc.length)=128+acc.length from shl_or 1 acc.length 7 (by omega)] at this
    exact this
   have hrev:=Reverse_spec (byteAV (acc++[UInt8.ofNat (128+acc.length)])) (by rw [qBy];simp;omega) (fun c hc=>byteAV_scalar hc) (fun c hc=>byteAV_low hc)
   rw [qBy,byteAV_reverse] at hrev
   refine wwe ?_
   refine qAu (qAn ?_)
   refine wws ?_
   refine AWk_opF (bufApp_ok hT rfl rfl rfl rfl rfl rfl (by show (acc.length+1)*(1+1)≤_;omega)) rfl rfl ?_
   refine wws ?_
   refine qDm (l:=[(3,.bm 0 (acc++[UInt8.ofNat (128+acc.length)]).length)]) (h':=[.buf 1 (acc++[UInt8.ofNat (128+acc.length)]).length (byteAV (acc++[UInt8.ofNat (128+acc.length)]))]) ⟨AV.le.eq (by simp;rfl),trivial⟩ ⟨⟨rfl,by simp,?_⟩,trivial⟩ ?_
   ·rw [byteAV_append]
    show AllLe (byteAV acc++[AV.d (.int .u8 (IntKind.u8.wrap ((BitVec.ofInt IntKind.u8.bits 128 ||| BitVec.ofInt IntKind.u8.bits (IntKind.u8.wrap (acc.length:Int))).toNat:Int)))]) _
    rw [hor]
    exact AllLe.refl _
   generalize acc++[UInt8.ofNat (128+acc.length)]=s at hrev ⊢
   refine qAu (qAn ?_)
   refine wws ?_
   refine AWk_opF (callS1 rfl rfl hrev [0] (by decide) rfl rfl rfl (lowH_bytes _ _ _) (lowH_bytes _ _ _) rfl rfl) rfl rfl ?_
   refine wws ?_
   refine AW_freezeBuf 3 0 1 (encB s.reverse) rfl rfl (by rw [qAl,List.length_reverse]) (RowDat_bytes _) rfl ?_
   refine ww ?_
   exact qAg rfl AV.le.dat rfl rfl rfl rfl ⟨rfl,rfl⟩
end Tdoc
namespace Tdoc
open Go Go.Proofs
mutual
def tagsN:Node→Prop
 | .mk t _ k=>tagOk t=true∧tagsL k
def tagsL:List Node→Prop
 | []=>True
 | a::l=>tagsN a∧tagsL l
end
theorem tagsL_at:∀ {l:List Node},tagsL l→∀ n,n∈l→tagsN n
 | [],_,n,h=>by cases h
 | a::l,h,n,hn=>by
  cases hn with
  | head=>exact h.1
  | tail _ hn=>exact tagsL_at h.2 n hn
mutual
theorem chkN_tags (d:Nat):∀ (n:Node) (c:Nat),(chkN d n c).1=0→tagsN n
 | .mk t v k,c,h=>by
  rw [chkN] at h
  split at h
  ·simp at h
  ·rename_i h1
   split at h
   ·simp at h
   ·split at h
    ·simp at h
    ·exact ⟨by simpa using h1,chkL_tags (d+1) k (c+1) h⟩
theorem chkL_tags (d:Nat):∀ (l:List Node) (c:Nat),(chkL d l c).1=0→tagsL l
 | [],c,h=>trivial
 | a::l,c,h=>by
  rw [chkL] at h
  split at h
  ·rename_i h0
   exact ⟨chkN_tags d a c h0,chkL_tags d l _ h⟩
  ·rename_i h0
   exact absurd h h0
end
theorem wrL_append:∀ (a b:List Node),wrL (a++b)=wrL a++wrL b
 | [],b=>rfl
 | x::a,b=>by simp only [List.cons_append,wrL,wrL_append a b,List.append_assoc]
theorem wrL_take_succ {l:List Node} {i:Nat} (h:i < l.length):wrL (l.take (i+1))=wrL (l.take i)++wrN l[i]:=by
 rw [List.take_succ_eq_append_getElem h,wrL_append]
 simp [wrL]
theorem wrL_take_le (l:List Node) (i:Nat):(wrL (l.take i)).length≤(wrL l).length:=by
 have:=congrArg List.length (wrL_append (l.take i) (l.drop i))
 rw [List.take_append_drop,List.length_append] at this
 omega
theorem sizeN_mem:∀ {l:List Node} {n:Node},n∈l→sizeN n≤sizeL l
 | a::l,n,h=>by
  cases h with
  | head=>simp only [sizeL];omega
  | tail _ h=>have:=sizeN_mem h;simp only [sizeL];omega
theorem write_spec:∀ (n:Nat) (l:List Node),sizeL l≤n→tagsL l→l.length≤1000000000→fitL l→(wrL l).length≤1000000000 →
  Spec Tryz.prog 161 [.d (.sl 3 (encNs l))] [] (fun r h'=>r=.d (.sl 1 (encB (wrL l)))∧h'=[]):=by
 intro n
 induction n using Nat.strongRecOn with
 | _ n ih =>
 intro l hsz htg hl hf hw
 have hlen:=qAm l
 refine qAb hT Tryz.func161 rfl rfl rfl rfl ?_
 intro E hE
 refine qAo ?_
 refine qAu (qAn ?_)
 refine wws ?_
 refine qAu (qAn ?_)
 refine wws ?_
 refine qBh 3 1 0 (es:=[]) (.inr ⟨rfl,rfl⟩) rfl ?_
 refine ww ?_
 refine qBu (ι:=Nat) (fun i=>[(3,.sl 1 (encB (wrL (l.take i))) (.right 0)),(7,.d (.sl 3 (encNs l))),(8,.d (.int .i64 (encNs l).length)),(9,.d (.int .i64 (i:Int)))]) (fun i=>[.right 1 (encB (wrL (l.take i))).length])
  (fun i=>i≤l.length) (fun i=>l.length-i) 0 (by omega) ⟨.refl _,.refl _,.refl _,.refl _,trivial⟩ (HLe.refl _) ?_
 intro i hi
 have hwr:IntKind.i64.wrap ((i:Int)+1)=((i+1:Nat):Int):=by rw [qAe (by omega)];simp
 refine ww ?_
 refine qAa rfl (fun h1=>?_) (fun h1=>?_)
 ·have hlt:i < l.length:=by rw [hlen] at h1;simpa using h1
  have hel:(encNs l)[((i:Int)).toNat]?=some (encN l[i]):=by simp [encNs_eq,hlt]
  have hsucc:=wrL_take_succ hlt
  have hle:=wrL_take_le l (i+1)
  have hmem:l[i]∈l:=List.getElem_mem hlt
  have hsm:=sizeN_mem hmem
  have htm:=tagsL_at htg _ hmem
  have hfm:=fitL_at hf _ hmem
  generalize l[i]=x at hel hsucc hsm htm hfm
  obtain ⟨t,v,k⟩:=x
  rw [encN] at hel
  rw [sizeN] at hsm
  have htr:=tagOk_range htm.1
  obtain ⟨tn,rfl⟩:=Int.eq_ofNat_of_zero_le (show 0≤t by omega)
  have hcon:=qCr (tn:Int) (by omega)
  rw [wrN] at hsucc
  generalize hout:wrL (l.take i)=out at hsucc ⊢
  have hrec:tagCons (tn:Int)=true→Spec Tryz.prog 161 [.d (.sl 3 (encNs k))] [] (fun r h'=>r=.d (.sl 1 (encB (wrL k)))∧h'=[]):=fun hc=>ih (sizeL k) (by omega) k (Nat.le_refl _) htm.2 hfm.2.2.1 hfm.2.2.2 (by
   rw [hsucc,if_pos hc] at hle
   simp only [List.length_append] at hle
   omega)
  generalize tagCons (tn:Int)=con at hcon hsucc hrec
  generalize hc:(if con=true then wrL k else v)=c at hsucc
  have hcl:c.length≤1000000000:=by
   rw [hsucc] at hle;simp only [List.length_append] at hle;omega
  have hll:=qAl c
  have hlsp:Spec Tryz.prog 229 [.d (.int .i64 ((encB c).length:Int))] [] (fun r h'=>r=.d (.sl 1 (encB (lenB c.length)))∧h'=[]):=by rw [hll];exact length_spec c.length (by omega)
  have hlb:out.length+((tagB (tn:Int)).length+(lenB c.length).length+c.length)≤1000000000:=by
   rw [hsucc] at hle;simp only [List.length_append] at hle;omega
  have hlo:IntKind.u8.wrap (tn:Int)=((UInt8.ofNat (tn % 256)).toNat:Int):=by rw [wrapu8_mod,toNat_ofNat (Nat.mod_lt _ (by omega))];simp
  have hshr:Int.fdiv (tn:Int) (2 ^ (min (8:Int).toNat IntKind.i64.bits))=((tn / 256:Nat):Int):=shr_nat tn 8
  have hhi:IntKind.u8.wrap (Int.fdiv (tn:Int) (2 ^ (min (8:Int).toNat IntKind.i64.bits)))=((UInt8.ofNat (tn / 256 % 256)).toNat:Int):=by rw [hshr,wrapu8_mod,toNat_ofNat (Nat.mod_lt _ (by omega))];simp
  generalize hhd:(if tn > 255 then [UInt8.ofNat (tn / 256 % 256)] else [])=hd
  have htb:tagB (tn:Int)=hd++[UInt8.ofNat (tn % 256)]:=by
   have e1:((tn:Int) / 256 % 256).toNat=tn / 256 % 256:=by omega
   have e2:((tn:Int) % 256).toNat=tn % 256:=by omega
   unfold tagB
   rw [e1,e2,← hhd]
   by_cases h9:tn > 255
   ·rw [if_pos (by omega),if_pos h9];rfl
   ·rw [if_neg (by omega),if_neg h9];rfl
  rw [htb] at hsucc hlb
  simp only [List.length_append,List.length_singleton] at hlb
  refine AW_skip ?_
  refine qAu (AW_block (qAu (qAn ?_)))
  refine qAd (qAc (qAi hT rfl rfl rfl rfl (by omega) hel)) rfl ?_
  refine wws ?_
  refine qAu (qAn ?_)
  refine wws ?_
  refine qBa (ι:=Unit) (fun _=>[(3,.sl 1 (encB out) (.right 0)),(5,.ptr 1 0),(6,.d (.sl 1 (encB c))),(7,.d (.sl 3 (encNs l))),(8,.d (.int .i64 (encNs l).length)),(9,.d (.int .i64 (i:Int)))])
   (fun _=>[.right 1 (encB out).length,.row [.d (.int .i64 (tn:Int)),.d (.sl 1 (encB v)),.d (.sl 3 (encNs k))]]) (fun _=>True) ?_ (fun _ _=>?_)
  ·refine ww ?_
   refine qAd (callS0 rfl rfl hcon rfl rfl rfl) rfl ?_
   refine ww ?_
   refine qAa rfl (fun h2=>?_) (fun h2=>?_)
   ·refine ww ?_
    refine qAd (callS0 rfl rfl (hrec h2) rfl rfl rfl) rfl ?_
    refine ww ?_
    exact ⟨(),trivial,⟨.refl _,.refl _,AV.le.eq (by rw [← hc,if_pos h2];rfl),.refl _,.refl _,.refl _,trivial⟩,HLe.refl _⟩
   ·have h2':¬ con=true:=by simp [h2]
    refine ww ?_
    exact ⟨(),trivial,⟨.refl _,.refl _,AV.le.eq (by rw [← hc,if_neg h2'];rfl),.refl _,.refl _,.refl _,trivial⟩,HLe.refl _⟩
  refine qBa (ι:=Unit) (fun _=>[(3,.sl 1 (encB (out++hd)) (.right 0)),(5,.ptr 1 0),(6,.d (.sl 1 (encB c))),(7,.d (.sl 3 (encNs l))),(8,.d (.int .i64 (encNs l).length)),(9,.d (.int .i64 (i:Int)))])
   (fun _=>[.right 1 (encB (out++hd)).length,.row [.d (.int .i64 (tn:Int)),.d (.sl 1 (encB v)),.d (.sl 3 (encNs k))]]) (fun _=>True) ?_ (fun _ _=>?_)
  ·refine ww ?_
   refine qAa rfl (fun h2=>?_) (fun h2=>?_)
   ·have h2':tn > 255:=by simp at h2;omega
    rw [if_pos h2'] at hhd
    subst hhd
    refine ww ?_
    refine qAd (qAk (i:=0) hT rfl rfl rfl rfl rfl rfl (by show ((encB out).length+1)*(1+1)≤_;rw [qAl];omega)) rfl ?_
    refine ww ?_
    refine ⟨(),trivial,⟨AV.le.eq ?_,.refl _,.refl _,.refl _,.refl _,.refl _,trivial⟩,⟨⟨rfl,?_⟩,ObLe.refl _,trivial⟩⟩
    ·show AV.sl 1 (encB out++[[.int .u8 (IntKind.u8.wrap (Int.fdiv (tn:Int) (2 ^ (min (8:Int).toNat IntKind.i64.bits))))]]) (.right 0)=_
     rw [hhi,qCj];rfl
    ·show (encB out++[[Dat.int .u8 (IntKind.u8.wrap (Int.fdiv (tn:Int) (2 ^ (min (8:Int).toNat IntKind.i64.bits))))]]).length=_
     rw [hhi,qCj];rfl
   ·have h2':¬ tn > 255:=by simp at h2;omega
    rw [if_neg h2'] at hhd
    subst hhd
    refine ww ?_
    refine ⟨(),trivial,⟨AV.le.eq (by rw [List.append_nil];rfl),.refl _,.refl _,.refl _,.refl _,.refl _,trivial⟩,⟨⟨rfl,by rw [List.append_nil]⟩,ObLe.refl _,trivial⟩⟩
  have hol:=qAl (out++hd)
  rw [List.length_append] at hol
  have hlbl:=qAl (lenB c.length)
  refine ww ?_
  refine qAd (qAk (i:=0) hT rfl rfl rfl rfl rfl rfl (by show ((encB (out++hd)).length+1)*(1+1)≤_;omega)) rfl ?_
  refine ww ?_
  refine qAd (callS0 rfl rfl hlsp rfl rfl rfl) rfl ?_
  refine qAd (qAk (i:=0) hT rfl rfl rfl rfl rfl rfl (by show ((encB (out++hd)++[[Dat.int .u8 (IntKind.u8.wrap (tn:Int))]]).length+(encB (lenB c.length)).length)*(1+1)≤_;rw [List.length_append,List.length_singleton];omega)) rfl ?_
  refine ww ?_
  refine qAd (qAk (i:=0) hT rfl rfl rfl rfl rfl rfl (by show ((encB (out++hd)++[[Dat.int .u8 (IntKind.u8.wrap (tn:Int))]]++encB (lenB c.length)).length+(encB c).length)*(1+1)≤_;rw [List.length_append,List.length_append,List.length_singleton];omega)) rfl ?_
  refine ww ?_
  have hres:encB (wrL (l.take (i+1)))=encB (out++hd)++[[Dat.int .u8 (IntKind.u8.wrap (tn:Int))]]++encB (lenB c.length)++encB c:=by
   rw [hsucc,hlo];simp only [qCj,List.append_assoc];rfl
  refine ⟨i+1,[_],by omega,by omega,⟨AV.le.eq (by rw [hres];rfl),.refl _,.refl _,AV.le.eq (by show AV.d (.int .i64 (IntKind.i64.wrap ((i:Int)+1)))=_;rw [hwr]),trivial⟩,⟨⟨rfl,by rw [hres]⟩,ObLe.refl _,trivial⟩,Env.below_mono hE (by simp),rfl,rfl⟩
 ·have hge:i=l.length:=by rw [hlen] at h1;simp at h1;omega
  subst hge
  rw [List.take_length]
  refine ww ?_
  exact qAg rfl AV.le.dat rfl rfl rfl rfl ⟨rfl,rfl⟩
set_option maxHeartbeats 4000000 in
set_option maxRecDepth 100000 in
theorem Encode_spec (l:List Node) (hl:l.length≤1000000000) (hf:fitL l) (hsz:sizeL l≤100000000) (hw:(wrL l).length≤1000000000) :
  Spec Tryz.prog 94 [.d (.sl 3 (encNs l))] [] (fun r h'=>r=.tup [.d (.sl 1 (encB (encodeP l).1)),.d (.int .i64 (encodeP l).2)]∧h'=[]):=by
 have hchk:=check_spec (sizeL l) 1 l 0 (Nat.le_refl _) hf hl (by omega) (by omega)
 have htag:=chkL_tags 1 l 0
 have hcnt:=qDu 1 l 0
 unfold encodeP
 generalize chkL 1 l 0=q at hchk htag hcnt
 obtain ⟨e,c⟩:=q
 simp only at hchk htag hcnt ⊢
 refine qAb hT Tryz.func94 rfl rfl rfl rfl ?_
 intro E hE
 refine ww ?_
 refine qAd (callS1 rfl rfl hchk [0] (by decide) rfl rfl rfl rfl rfl rfl rfl) rfl ?_
 refine ww ?_
 refine qAa rfl (fun h1=>?_) (fun h1=>?_)
 ·have h1':e≠0:=by simpa using h1
  rw [if_pos h1']
  refine ww ?_
  exact qAg (r:=.tup [.d (.sl 1 (encB [])),.d (.int .i64 e)]) rfl (AV.le.tup ⟨AV.le.nils,.refl _,trivial⟩) rfl rfl rfl rfl ⟨rfl,rfl⟩
 ·have h1':¬ e≠0:=by simpa using h1
  rw [if_neg h1']
  refine ww ?_
  refine qAa rfl (fun h2=>?_) (fun h2=>?_)
  ·have h2':c > 256:=by simp at h2;omega
   rw [if_pos h2']
   refine ww ?_
   exact qAg (r:=.tup [.d (.sl 1 (encB [])),.d (.int .i64 2)]) rfl (AV.le.tup ⟨AV.le.nils,.refl _,trivial⟩) rfl rfl rfl rfl ⟨rfl,rfl⟩
  ·have h2':¬ c > 256:=by simp at h2;omega
   rw [if_neg h2']
   have hwr:=write_spec (sizeL l) l (Nat.le_refl _) (htag (by omega)) hl hf hw
   have hwl:=qAl (wrL l)
   generalize wrL l=s at hwr hwl
   refine ww ?_
   refine qAd (callS0 rfl rfl hwr rfl rfl rfl) rfl ?_
   refine ww ?_
   refine qAa rfl (fun h3=>?_) (fun h3=>?_)
   ·have h3':s.length > 4096:=by rw [hwl] at h3;simp at h3;omega
    rw [if_pos h3']
    refine ww ?_
    exact qAg (r:=.tup [.d (.sl 1 (encB [])),.d (.int .i64 2)]) rfl (AV.le.tup ⟨AV.le.nils,.refl _,trivial⟩) rfl rfl rfl rfl ⟨rfl,rfl⟩
   ·have h3':¬ s.length > 4096:=by rw [hwl] at h3;simp at h3;omega
    rw [if_neg h3']
    refine ww ?_
    exact qAg rfl (.refl _) rfl rfl rfl rfl ⟨rfl,rfl⟩
end Tdoc
namespace Tdoc
open Go Go.Proofs
mutual
theorem chkN_any (d:Nat):∀ (n:Node) (c c':Nat),(chkN d n c).1=(chkN d n c').1
 | .mk t v k,c,c'=>by
  rw [chkN,chkN]
  split
  ·rfl
  ·split
   ·rfl
   ·split
    ·rfl
    ·exact chkL_any (d+1) k _ _
theorem chkL_any (d:Nat):∀ (l:List Node) (c c':Nat),(chkL d l c).1=(chkL d l c').1
 | [],c,c'=>rfl
 | a::l,c,c'=>by
  rw [chkL,chkL,chkN_any d a c c']
  split
  ·exact chkL_any d l _ _
  ·exact chkN_any d a c c'
end
end Tdoc
namespace Tdoc
open Go Go.Proofs
def lenR (n:Nat):List UInt8:=if n≤127 then [UInt8.ofNat n] else if n≤255 then [129,UInt8.ofNat n] else [130,UInt8.ofNat (n / 256 % 256),UInt8.ofNat (n % 256)]
theorem tagB_le (t:Int):(tagB t).length≤2:=by unfold tagB;split <;> simp
theorem lenR_eq {n:Nat} (h:n≤4097):lenR n=lenB n:=by
 unfold lenR lenB
 by_cases h1:n≤127
 ·rw [if_pos h1,if_pos (by omega)]
 ·rw [if_neg h1,if_neg (show ¬ n < 128 by omega)]
  by_cases h2:n≤255
  ·have hd:digs 8 n=[UInt8.ofNat n]:=by
    have hz:n / 256=0:=by omega
    show (digL (7+1) n).reverse=_
    rw [digL,if_neg (by omega),hz,digL_zero,Nat.mod_eq_of_lt (by omega)]
    rfl
   rw [if_pos h2,hd];rfl
  ·have hd:digs 8 n=[UInt8.ofNat (n / 256 % 256),UInt8.ofNat (n % 256)]:=by
    have hz:n / 256 / 256=0:=by omega
    show (digL (6+1+1) n).reverse=_
    rw [digL,if_neg (by omega),digL,if_neg (by omega),hz,digL_zero]
    rfl
   rw [if_neg h2,hd];rfl
end Tdoc
namespace Tdoc
open Go Go.Proofs
end Tdoc
namespace Tdoc
open Go Go.Proofs
theorem lenB_le (n:Nat):(lenB n).length≤9:=by
 have:(digs 8 n).length≤8:=by unfold digs;rw [List.length_reverse];exact digL_length 8 n
 unfold lenB
 split
 ·simp
 ·rw [List.length_cons];omega
theorem wrL_one_le (t:Int) (v:List UInt8) (l:List Node):(wrL [.mk t v l]).length≤11+v.length+(wrL l).length:=by
 have h1:=lenB_le (wrL l).length
 have h2:=lenB_le v.length
 have h3:=tagB_le t
 simp only [wrL,wrN,List.length_append,List.length_nil]
 split <;> omega
def wrapG (n:Int) (l:List Node):List UInt8×Int:=if (tagR n).2≠0 then ([],(tagR n).2) else encodeP [.mk (tagR n).1 [] l]
theorem tagR_range (n:Int):0≤(tagR n).1∧(tagR n).1≤255:=by
 unfold tagR
 split
 ·simp
 ·rename_i h
  obtain ⟨x,hx,_,_⟩:=tagD_at (i:=(n-1).toNat) (by omega)
  rw [hx]
  have hm:=List.mem_of_getElem? hx
  have:∀ y,y∈tagTab→0≤y∧y≤255:=by decide
  exact this x hm
set_option maxHeartbeats 4000000 in
set_option maxRecDepth 100000 in
theorem Wrap_spec (n:Int) (hn : -9223372036854775808≤n∧n≤9223372036854775807) (l:List Node) (hl:l.length≤1000000000) (hf:fitL l) (hsz:sizeL l≤10000000) (hw:(wrL l).length≤100000000) :
  Spec Tryz.prog 66 [.d (.int .i64 n),.d (.sl 3 (encNs l))] [] (fun r h'=>r=.tup [.d (.sl 1 (encB (wrapG n l).1)),.d (.int .i64 (wrapG n l).2)]∧h'=[]):=by
 have htag:=Tag_spec n hn
 have hrg:=tagR_range n
 unfold wrapG
 generalize tagR n=q at htag hrg
 obtain ⟨t,e⟩:=q
 simp only at htag hrg ⊢
 have henc:=Encode_spec [.mk t [] l] (by simp) ⟨⟨by omega,by simp,hl,hf⟩,trivial⟩ (by simp only [sizeL,sizeN];omega) (by have:=wrL_one_le t [] l;simp only [List.length_nil] at this;omega)
 generalize encodeP [.mk t [] l]=en at henc
 obtain ⟨b,f⟩:=en
 refine qAb hT Tryz.func66 rfl rfl rfl rfl ?_
 intro E hE
 refine ww ?_
 refine qAd (callS0 rfl rfl htag rfl rfl rfl) rfl ?_
 refine ww ?_
 refine qAa rfl (fun h1=>?_) (fun h1=>?_)
 ·have h1':e≠0:=by simpa using h1
  rw [if_pos h1']
  refine ww ?_
  exact qAg (r:=.tup [.d (.sl 1 (encB [])),.d (.int .i64 e)]) rfl (AV.le.tup ⟨AV.le.nils,.refl _,trivial⟩) rfl rfl rfl rfl ⟨rfl,rfl⟩
 ·have h1':¬ e≠0:=by simpa using h1
  rw [if_neg h1']
  refine ww ?_
  refine qAd (callS0L rfl rfl henc rfl (by exact ⟨AV.le.dat,trivial⟩) rfl rfl) rfl ?_
  refine ww ?_
  exact qAg rfl (.refl _) rfl rfl rfl rfl ⟨rfl,rfl⟩
end Tdoc
namespace Tdoc
open Go Go.Proofs
def rdr (b:List UInt8) (st:Bool) (p c:Nat):List AV:=[.d (.sl 1 (encB b)),.d (.int .i64 (p:Int)),.d (.bool st),.d (.int .i64 (c:Int))]
def byteAt (b:List UInt8) (i:Nat):Nat:=(b.getD i 0).toNat
theorem qCw (b:List UInt8) (i:Nat):byteAt b i < 256:=by unfold byteAt;exact UInt8.toNat_lt _
theorem encB_byte {b:List UInt8} {i:Nat} (h:i < b.length):(encB b)[i]?=some [.int .u8 (byteAt b i:Int)]:=by
 rw [encB_at h];unfold byteAt;rw [List.getD_eq_getElem?_getD,List.getElem?_eq_getElem h];rfl
theorem joinB {a x:Nat} (ha:a < 4294967296) (hx:x < 256) :
  IntKind.i64.wrap ((BitVec.ofInt IntKind.i64.bits (IntKind.i64.wrap ((a:Int)*2 ^ min (Int.toNat 8) IntKind.i64.bits)) ||| BitVec.ofInt IntKind.i64.bits (x:Int)).toNat:Int)=((a*256+x:Nat):Int):=by
 have h1:IntKind.i64.wrap ((a:Int)*2 ^ min (Int.toNat 8) IntKind.i64.bits)=((a*256:Nat):Int):=by
  show IntKind.i64.wrap ((a:Int)*256)=_
  rw [qAe (by omega)];omega
 rw [h1,or_nat (by omega) (by omega)]
 have:=shl_or a x 8 (by omega)
 rw [show (2:Nat) ^ 8=256 from rfl] at this
 rw [this]
def tagX (b:List UInt8) (e p:Nat):Int×Int×Nat :=
 if e≤p then (0,6,p)
 else if byteAt b p % 32=31 then
  if e≤p+1 then (0,6,p+1)
  else if tagOk ((byteAt b p*256+byteAt b (p+1):Nat):Int) then (((byteAt b p*256+byteAt b (p+1):Nat):Int),0,p+2) else (0,4,p+2)
 else if tagOk (byteAt b p:Int) then ((byteAt b p:Int),0,p+1) else (0,4,p+1)
set_option maxHeartbeats 4000000 in
set_option maxRecDepth 100000 in
theorem tag_spec (b:List UInt8) (st:Bool) (e p c:Nat) (hb:b.length≤1000000) (he:e≤b.length) (hp:p≤e) :
  Spec Tryz.prog 235 [.ptr 0 0,.d (.int .i64 (e:Int))] [.row (rdr b st p c)] (fun r h'=>r=.tup [.d (.int .i64 (tagX b e p).1),.d (.int .i64 (tagX b e p).2.1)]∧h'=[.row (rdr b st (tagX b e p).2.2 c)]):=by
 have hx:=qCw b p
 have hx1:=qCw b (p+1)
 have hw0:IntKind.i64.wrap (byteAt b p:Int)=(byteAt b p:Int):=qAe (by omega)
 have hw1:IntKind.i64.wrap (byteAt b (p+1):Int)=(byteAt b (p+1):Int):=qAe (by omega)
 have hwr:IntKind.i64.wrap ((p:Int)+1)=((p+1:Nat):Int):=by rw [qAe (by omega)];simp
 have hwr2:IntKind.i64.wrap (IntKind.i64.wrap ((p:Int)+1)+1)=((p+2:Nat):Int):=by rw [hwr,qAe (by omega)];omega
 have hlong:Spec Tryz.prog 228 [.d (.int .i64 (IntKind.i64.wrap (byteAt b p:Int)))] [] (fun r h'=>r=.d (.bool ((byteAt b p:Int) % 32 == 31))∧h'=[]):=by rw [hw0];exact long_spec _ (by omega) (by omega)
 refine qAb hT Tryz.func235 rfl rfl rfl rfl ?_
 intro E hE
 unfold tagX
 refine ww ?_
 refine qAa rfl (fun h1=>?_) (fun h1=>?_)
 ·have h1':e≤p:=by simpa using h1
  rw [if_pos h1']
  refine ww ?_
  exact qAg rfl (.refl _) rfl rfl rfl rfl ⟨rfl,rfl⟩
 ·have h1':¬ e≤p:=by simpa using h1
  have hel:(encB b)[((p:Int)).toNat]?=some [.int .u8 (byteAt b p:Int)]:=encB_byte (by omega)
  rw [if_neg h1']
  refine ww ?_
  refine qAp (qAc (qAi hT rfl rfl rfl rfl (by omega) hel)) rfl rfl ?_
  refine ww ?_
  refine qAd (callS0 rfl rfl hlong rfl rfl rfl) rfl ?_
  refine ww ?_
  refine qAa rfl (fun h2=>?_) (fun h2=>?_)
  ·have h2':byteAt b p % 32=31:=by simp at h2;omega
   rw [if_pos h2']
   refine ww ?_
   refine qAa rfl (fun h3=>?_) (fun h3=>?_)
   ·have h3':e≤p+1:=by rw [hwr] at h3;simp at h3;omega
    rw [if_pos h3']
    refine ww ?_
    exact qAg rfl (.refl _) rfl rfl rfl rfl ⟨rfl,by rw [hwr];rfl⟩
   ·have h3':¬ e≤p+1:=by rw [hwr] at h3;simp at h3;omega
    have hel1:(encB b)[(IntKind.i64.wrap ((p:Int)+1)).toNat]?=some [.int .u8 (byteAt b (p+1):Int)]:=by rw [hwr];exact encB_byte (by omega)
    rw [if_neg h3']
    refine ww ?_
    refine qAp (qAc (qAi hT rfl rfl rfl rfl (by rw [hwr];omega) hel1)) rfl rfl ?_
    refine ww ?_
    have hj:IntKind.i64.wrap ((BitVec.ofInt IntKind.i64.bits (IntKind.i64.wrap (IntKind.i64.wrap (byteAt b p:Int)*2 ^ min (Int.toNat 8) IntKind.i64.bits)) ||| BitVec.ofInt IntKind.i64.bits (IntKind.i64.wrap (byteAt b (p+1):Int))).toNat:Int)=((byteAt b p*256+byteAt b (p+1):Nat):Int):=by rw [hw0,hw1];exact joinB (by omega) hx1
    generalize hvv:IntKind.i64.wrap ((BitVec.ofInt IntKind.i64.bits (IntKind.i64.wrap (IntKind.i64.wrap (byteAt b p:Int)*2 ^ min (Int.toNat 8) IntKind.i64.bits)) ||| BitVec.ofInt IntKind.i64.bits (IntKind.i64.wrap (byteAt b (p+1):Int))).toNat:Int)=vv at hj
    have hvalid:Spec Tryz.prog 159 [.d (.int .i64 vv)] [] (fun r h'=>r=.d (.bool (tagOk vv))∧h'=[]):=Valid_spec vv (by omega)
    rw [← hj]
    generalize tagOk vv=ok at hvalid
    refine qAd (callS0 rfl rfl hvalid rfl rfl rfl) rfl ?_
    refine ww ?_
    refine qAa rfl (fun h4=>?_) (fun h4=>?_)
    ·have h4':¬ ok=true:=by simpa using h4
     rw [if_neg h4']
     refine ww ?_
     exact qAg rfl (.refl _) rfl rfl rfl rfl ⟨rfl,by rw [hwr2];rfl⟩
    ·have h4':ok=true:=by simpa using h4
     rw [if_pos h4']
     refine ww ?_
     exact qAg rfl (.refl _) rfl rfl rfl rfl ⟨rfl,by rw [hwr2];rfl⟩
  ·have h2':¬ byteAt b p % 32=31:=by simp at h2;omega
   have hvalid:Spec Tryz.prog 159 [.d (.int .i64 (IntKind.i64.wrap (byteAt b p:Int)))] [] (fun r h'=>r=.d (.bool (tagOk (byteAt b p:Int)))∧h'=[]):=by rw [hw0];exact Valid_spec _ (by omega)
   rw [if_neg h2']
   generalize tagOk (byteAt b p:Int)=ok at hvalid
   refine ww ?_
   refine qAd (callS0 rfl rfl hvalid rfl rfl rfl) rfl ?_
   refine ww ?_
   refine qAa rfl (fun h4=>?_) (fun h4=>?_)
   ·have h4':¬ ok=true:=by simpa using h4
    rw [if_neg h4']
    refine ww ?_
    exact qAg rfl (.refl _) rfl rfl rfl rfl ⟨rfl,by rw [hwr];rfl⟩
   ·have h4':ok=true:=by simpa using h4
    rw [if_pos h4']
    refine ww ?_
    exact qAg (r:=.tup [.d (.int .i64 (byteAt b p:Int)),.d (.int .i64 0)]) rfl (AV.le.tup ⟨AV.le.eq (congrArg (fun z=>AV.d (.int .i64 z)) hw0),.refl _,trivial⟩) rfl rfl rfl rfl ⟨rfl,by rw [hwr];rfl⟩
end Tdoc
namespace Tdoc
open Go Go.Proofs
def numB (b:List UInt8):Nat→Nat→Nat→Nat
 | _,0,a=>a
 | p,k+1,a=>numB b (p+1) k (a*256+byteAt b p)
theorem numB_lt (b:List UInt8):∀ (k p a m:Nat),a < 256 ^ m→numB b p k a < 256 ^ (m+k)
 | 0,p,a,m,h=>h
 | k+1,p,a,m,h=>by
  have hx:=qCw b p
  have h1:a*256+byteAt b p < 256 ^ (m+1):=by rw [Nat.pow_succ];omega
  have h2:=numB_lt b k (p+1) _ (m+1) h1
  rw [numB,show m+(k+1)=m+1+k by omega];exact h2
def lenX (b:List UInt8) (e:Nat) (op st:Bool) (p:Nat):Int×Int×Nat :=
 if e≤p then (0,6,p)
 else if byteAt b p < 128 then ((byteAt b p:Int),0,p+1)
 else if 132 < byteAt b p∨(byteAt b p=128∧op=false) then (0,5,p+1)
 else if byteAt b p=128 then (-1,0,p+1)
 else if e < p+1+byteAt b p % 16 then (0,6,p+1)
 else if st=true∧(numB b (p+1) (byteAt b p % 16) 0 < 128∨numB b (p+1) (byteAt b p % 16) 0 / 2 ^ (8*(byteAt b p % 16-1))=0) then (0,5,p+1+byteAt b p % 16)
 else ((numB b (p+1) (byteAt b p % 16) 0:Int),0,p+1+byteAt b p % 16)
set_option maxHeartbeats 4000000 in
set_option maxRecDepth 100000 in
theorem len_spec (b:List UInt8) (op st:Bool) (e p c:Nat) (hb:b.length≤1000000) (he:e≤b.length) (hp:p≤e) :
  Spec Tryz.prog 236 [.ptr 0 0,.d (.int .i64 (e:Int)),.d (.bool op)] [.row (rdr b st p c)] (fun r h'=>r=.tup [.d (.int .i64 (lenX b e op st p).1),.d (.int .i64 (lenX b e op st p).2.1)]∧h'=[.row (rdr b st (lenX b e op st p).2.2 c)]):=by
 have hx:=qCw b p
 have hw0:IntKind.i64.wrap (byteAt b p:Int)=(byteAt b p:Int):=qAe (by omega)
 have hwr:IntKind.i64.wrap ((p:Int)+1)=((p+1:Nat):Int):=by rw [qAe (by omega)];simp
 have hand:IntKind.i64.wrap ((BitVec.ofInt IntKind.i64.bits (IntKind.i64.wrap (byteAt b p:Int)) &&& BitVec.ofInt IntKind.i64.bits (15:Int)).toNat:Int)=((byteAt b p % 16:Nat):Int):=by
  rw [hw0]
  have:=and_nat (a:=byteAt b p) (b:=15) (by omega) (by omega)
  rw [mask_nat (byteAt b p) 4] at this
  exact this
 refine qAb hT Tryz.func236 rfl rfl rfl rfl ?_
 intro E hE
 unfold lenX
 refine ww ?_
 refine qAa rfl (fun h1=>?_) (fun h1=>?_)
 ·have h1':e≤p:=by simpa using h1
  rw [if_pos h1']
  refine ww ?_
  exact qAg rfl (.refl _) rfl rfl rfl rfl ⟨rfl,rfl⟩
 ·have h1':¬ e≤p:=by simpa using h1
  have hel:(encB b)[((p:Int)).toNat]?=some [.int .u8 (byteAt b p:Int)]:=encB_byte (by omega)
  rw [if_neg h1']
  refine ww ?_
  refine qAp (qAc (qAi hT rfl rfl rfl rfl (by omega) hel)) rfl rfl ?_
  refine ww ?_
  refine qAa rfl (fun h2=>?_) (fun h2=>?_)
  ·have h2':byteAt b p < 128:=by rw [hw0] at h2;simp at h2;omega
   rw [if_pos h2']
   refine ww ?_
   exact qAg (r:=.tup [.d (.int .i64 (byteAt b p:Int)),.d (.int .i64 0)]) rfl (AV.le.tup ⟨AV.le.eq (congrArg (fun z=>AV.d (.int .i64 z)) hw0),.refl _,trivial⟩) rfl rfl rfl rfl ⟨rfl,by rw [hwr];rfl⟩
  ·have h2':¬ byteAt b p < 128:=by rw [hw0] at h2;simp at h2;omega
   rw [if_neg h2']
   refine ww ?_
   refine qAa rfl (fun h3=>?_) (fun h3=>?_)
   ·have h3':132 < byteAt b p:=by rw [hw0] at h3;simp at h3;omega
    rw [if_pos (.inl h3')]
    refine ww ?_
    refine qAa rfl (fun h4=>?_) (fun h4=>?_)
    ·refine ww ?_
     exact qAg rfl (.refl _) rfl rfl rfl rfl ⟨rfl,by rw [hwr];rfl⟩
    ·exact absurd (h3.symm.trans h4) (by simp)
   ·have h3':¬ 132 < byteAt b p:=by rw [hw0] at h3;simp at h3;omega
    refine ww ?_
    refine qAa rfl (fun h4=>?_) (fun h4=>?_)
    ·have h4':byteAt b p=128∧op=false:=by rw [hw0] at h4;simp at h4;exact ⟨by omega,h4.2⟩
     rw [if_pos (.inr h4')]
     refine ww ?_
     exact qAg rfl (.refl _) rfl rfl rfl rfl ⟨rfl,by rw [hwr];rfl⟩
    ·have h4':¬ (byteAt b p=128∧op=false):=by rintro ⟨ha,hb'⟩;rw [hw0,ha,hb'] at h4;simp at h4
     rw [if_neg (fun hh=>hh.elim h3' h4')]
     refine ww ?_
     refine qAa rfl (fun h5=>?_) (fun h5=>?_)
     ·have h5':byteAt b p=128:=by rw [hw0] at h5;simp at h5;omega
      rw [if_pos h5']
      refine ww ?_
      exact qAg rfl (.refl _) rfl rfl rfl rfl ⟨rfl,by rw [hwr];rfl⟩
     ·have h5':¬ byteAt b p=128:=by rw [hw0] at h5;simp at h5;omega
      rw [if_neg h5']
      have hk1:1≤byteAt b p % 16∧byteAt b p % 16≤4:=by omega
      generalize hks:byteAt b p % 16=ks at hand hk1
      refine ww ?_
      rw [hand]
      have hws:IntKind.i64.wrap ((e:Int)-IntKind.i64.wrap ((p:Int)+1))=(e:Int)-((p+1:Nat):Int):=by rw [hwr,qAe (by omega)]
      refine qAa rfl (fun h6=>?_) (fun h6=>?_)
      ·have h6':e < p+1+ks:=by rw [hws] at h6;simp at h6;omega
       rw [if_pos h6']
       refine ww ?_
       exact qAg rfl (.refl _) rfl rfl rfl rfl ⟨rfl,by rw [hwr];rfl⟩
      ·have h6':¬ e < p+1+ks:=by rw [hws] at h6;simp at h6;omega
       rw [if_neg h6']
       have hfl:=numB_lt b ks (p+1) 0 0 (by simp)
       have hpw:256 ^ (0+ks)≤256 ^ 4:=Nat.pow_le_pow_right (by omega) (by omega)
       generalize hfin:numB b (p+1) ks 0=fin at hfl
       refine ww ?_
       refine qAq (ι:=Nat×Nat) (fun x=>[(0,.ptr 0 0),(9,.d (.int .i64 (ks:Int))),(10,.d (.int .i64 (x.2:Int))),(61,.d (.int .i64 (ks:Int))),(62,.d (.int .i64 (x.1:Int)))]) (fun x=>[.row (rdr b st (p+1+x.1) c)])
        (fun x=>x.1≤ks∧numB b (p+1+x.1) (ks-x.1) x.2=fin∧x.2 < 256 ^ x.1) (fun x=>ks-x.1) (0,0) ⟨by omega,hfin,by simp⟩ ⟨.refl _,.refl _,.refl _,.refl _,.refl _,trivial⟩ ⟨⟨.refl _,AV.le.eq (by rw [hwr];rfl),.refl _,.refl _,trivial⟩,trivial⟩ ?_
       rintro ⟨i,acc⟩ ⟨hi,hg,hac⟩
       simp only at hi hg hac ⊢
       have hwi:IntKind.i64.wrap ((i:Int)+1)=((i+1:Nat):Int):=by rw [qAe (by omega)];simp
       refine ww ?_
       refine qAa rfl (fun h7=>?_) (fun h7=>?_)
       ·have h7':i < ks:=by simpa using h7
        have hxi:=qCw b (p+1+i)
        have hwp:IntKind.i64.wrap (((p+1+i:Nat):Int)+1)=((p+1+(i+1):Nat):Int):=by rw [qAe (by omega)];omega
        have hwx:IntKind.i64.wrap (byteAt b (p+1+i):Int)=(byteAt b (p+1+i):Int):=qAe (by omega)
        have hel1:(encB b)[((p+1+i:Nat):Int).toNat]?=some [.int .u8 (byteAt b (p+1+i):Int)]:=by rw [Int.toNat_natCast];exact encB_byte (by omega)
        have hp3:256 ^ i≤256 ^ 3:=Nat.pow_le_pow_right (by omega) (by omega)
        have hj:IntKind.i64.wrap ((BitVec.ofInt IntKind.i64.bits (IntKind.i64.wrap ((acc:Int)*2 ^ min (Int.toNat 8) IntKind.i64.bits)) ||| BitVec.ofInt IntKind.i64.bits (IntKind.i64.wrap (byteAt b (p+1+i):Int))).toNat:Int)=((acc*256+byteAt b (p+1+i):Nat):Int):=by rw [hwx];exact joinB (by omega) hxi
        rw [show ks-i=(ks-(i+1))+1 by omega,numB] at hg
        refine ww ?_
        refine qAp (qAc (qAi hT rfl rfl rfl rfl (by omega) hel1)) rfl rfl ?_
        refine ww ?_
        exact ⟨(i+1,acc*256+byteAt b (p+1+i)),⟨by simp only;omega,hg,by simp only;rw [Nat.pow_succ];omega⟩,by simp only;omega,⟨.refl _,.refl _,AV.le.eq (congrArg (fun z=>AV.d (.int .i64 z)) hj),.refl _,AV.le.eq (congrArg (fun z=>AV.d (.int .i64 z)) hwi),trivial⟩,⟨⟨.refl _,AV.le.eq (congrArg (fun z=>AV.d (.int .i64 z)) hwp),.refl _,.refl _,trivial⟩,trivial⟩⟩
       ·have h7':i=ks:=by simp at h7;omega
        subst h7'
        rw [Nat.sub_self,numB] at hg
        subst hg
        refine ww ?_
        have hws8:IntKind.i64.wrap (8*IntKind.i64.wrap ((i:Int)-1))=((8*(i-1):Nat):Int):=by rw [qAe (n:=(i:Int)-1) (by omega),qAe (by omega)];omega
        have hsh:Int.fdiv (acc:Int) (2 ^ min (IntKind.i64.wrap (8*IntKind.i64.wrap ((i:Int)-1))).toNat IntKind.i64.bits)=((acc / 2 ^ (8*(i-1)):Nat):Int):=by
         rw [hws8,Int.toNat_natCast,show min (8*(i-1)) IntKind.i64.bits=8*(i-1) from Nat.min_eq_left (by show _≤64;omega)]
         exact shr_nat acc _
        refine AWk_gstep hT rfl rfl rfl rfl (fun hg=>⟨⟨hg,hg,True.intro⟩,by rw [hws8];omega⟩) ?_
        refine ww ?_
        refine qAa rfl (fun h8=>?_) (fun h8=>?_)
        ·have h8':st=true∧(acc < 128∨acc / 2 ^ (8*(i-1))=0):=by
          rw [hsh] at h8
          simp only [Bool.and_eq_true,Bool.or_eq_true,decide_eq_true_eq,beq_iff_eq] at h8
          exact ⟨h8.1,h8.2.imp (fun h=>by omega) (fun h=>by omega)⟩
         rw [if_pos h8']
         refine ww ?_
         exact qAg rfl (.refl _) rfl rfl rfl rfl ⟨rfl,rfl⟩
        ·have h8':¬ (st=true∧(acc < 128∨acc / 2 ^ (8*(i-1))=0)):=by
          rintro ⟨g1,g2⟩
          have:(st&&(decide ((acc:Int) < 128)||(Int.fdiv (acc:Int) (2 ^ min (IntKind.i64.wrap (8*IntKind.i64.wrap ((i:Int)-1))).toNat IntKind.i64.bits) == 0)))=true:=by
           rw [hsh]
           simp only [Bool.and_eq_true,Bool.or_eq_true,decide_eq_true_eq,beq_iff_eq]
           exact ⟨g1,g2.imp (fun h=>by omega) (fun h=>by omega)⟩
          exact absurd (this.symm.trans h8) (by simp)
         rw [if_neg h8']
         refine ww ?_
         exact qAg rfl (.refl _) rfl rfl rfl rfl ⟨rfl,rfl⟩
end Tdoc
namespace Tdoc
open Go Go.Proofs
abbrev Rd:=Nat→Nat→Node×Int×Nat×Nat
def nCells:Node→List AV
 | .mk t v k=>[.d (.int .i64 t),.d (.sl 1 (encB v)),.d (.sl 3 (encNs k))]
def loopX (f:Rd) (e:Nat):Nat→Nat→Nat→List Node→List Node×Int×Nat×Nat
 | 0,p,c,out=>(out,0,p,c)
 | m+1,p,c,out=>if p < e then (if (f p c).2.1≠0 then ([],(f p c).2) else loopX f e m (f p c).2.2.1 (f p c).2.2.2 (out++[(f p c).1])) else (out,0,p,c)
def kidsX (b:List UInt8) (f:Rd) (e:Nat):Nat→Nat→Nat→List Node→List Node×Int×Nat×Nat
 | 0,p,c,out=>([],6,p,c)
 | m+1,p,c,out=>if e≤p∨(byteAt b p=0∧e≤p+1) then ([],6,p,c) else if byteAt b p=0∧byteAt b (p+1)=0 then (out,0,p+2,c)
  else (if (f p c).2.1≠0 then ([],(f p c).2) else kidsX b f e m (f p c).2.2.1 (f p c).2.2.2 (out++[(f p c).1]))
def RdOk (f:Rd) (e:Nat):Prop:=∀ p c,p≤e→c≤256→p≤(f p c).2.2.1∧(f p c).2.2.1≤e∧(f p c).2.2.2≤257∧((f p c).2.1=0→p < (f p c).2.2.1∧(f p c).2.2.2≤256)
theorem loopX_ok {f:Rd} {e:Nat} (hf:RdOk f e):∀ (m p c:Nat) (out:List Node),p≤e→c≤256→p≤(loopX f e m p c out).2.2.1∧(loopX f e m p c out).2.2.1≤e∧(loopX f e m p c out).2.2.2≤257∧((loopX f e m p c out).2.1=0→(loopX f e m p c out).2.2.2≤256)
 | 0,p,c,out,hp,hc=>⟨Nat.le_refl _,hp,by show c≤257;omega,fun _=>hc⟩
 | m+1,p,c,out,hp,hc=>by
  have h:=hf p c hp hc
  rw [loopX]
  split
  ·split
   ·rename_i h2
    exact ⟨h.1,h.2.1,h.2.2.1,fun h0=>absurd h0 h2⟩
   ·rename_i h2
    have h3:=h.2.2.2 (by simpa using h2)
    have:=loopX_ok hf m _ (f p c).2.2.2 (out++[(f p c).1]) h.2.1 h3.2
    exact ⟨by omega,this.2⟩
  ·exact ⟨Nat.le_refl _,hp,by show c≤257;omega,fun _=>hc⟩
theorem kidsX_ok {b:List UInt8} {f:Rd} {e:Nat} (hf:RdOk f e):∀ (m p c:Nat) (out:List Node),p≤e→c≤256→p≤(kidsX b f e m p c out).2.2.1∧(kidsX b f e m p c out).2.2.1≤e∧(kidsX b f e m p c out).2.2.2≤257∧((kidsX b f e m p c out).2.1=0→(kidsX b f e m p c out).2.2.2≤256)
 | 0,p,c,out,hp,hc=>⟨Nat.le_refl _,hp,by show c≤257;omega,fun _=>hc⟩
 | m+1,p,c,out,hp,hc=>by
  have h:=hf p c hp hc
  rw [kidsX]
  split
  ·exact ⟨Nat.le_refl _,hp,by show c≤257;omega,fun _=>hc⟩
  ·rename_i h0
   split
   ·exact ⟨by show p≤p+2;omega,by show p+2≤e;omega,by show c≤257;omega,fun _=>hc⟩
   ·split
    ·rename_i h2
     exact ⟨h.1,h.2.1,h.2.2.1,fun h0=>absurd h0 h2⟩
    ·rename_i h2
     have h3:=h.2.2.2 (by simpa using h2)
     have:=kidsX_ok (b:=b) hf m _ (f p c).2.2.2 (out++[(f p c).1]) h.2.1 h3.2
     exact ⟨by omega,this.2⟩
set_option maxRecDepth 100000 in
theorem CloneB_spec (es:List (List Dat)) (hl:es.length≤2000000) :
  Spec Tryz.prog 200 [.d (.sl 1 es)] [] (fun r h'=>r=.d (.sl 1 es)∧h'=[]):=by
 refine qAb hT Tryz.func200 rfl rfl rfl rfl ?_
 intro E hE
 refine ww ?_
 refine AWk_opR (eqNil_ok hT (fun _=>rfl) rfl rfl rfl) rfl ?_
 rintro v h' ⟨rfl,b,rfl,hb⟩
 refine ww ?_
 refine qAa rfl (fun h1=>?_) (fun h1=>?_)
 ·obtain rfl:=hb h1
  refine ww ?_
  exact qAg rfl AV.le.nils rfl rfl rfl rfl ⟨rfl,rfl⟩
 ·refine ww ?_
  refine qAd (append_full (es:=[]) hT rfl rfl rfl (.inl rfl) rfl (by show (([]:List (List Dat)).length+es.length)*(1+1)≤140737488355328;simp;omega)) rfl ?_
  refine ww ?_
  exact qAg rfl (.refl _) rfl rfl rfl rfl ⟨rfl,rfl⟩
def ObjS (b:List UInt8) (st:Bool) (f:Rd) (e d:Nat):Prop:=∀ p c,p≤e→c≤256→Spec Tryz.prog 180 [.ptr 0 0,.d (.int .i64 (e:Int)),.d (.int .i64 (d:Int))] [.row (rdr b st p c)]
 (fun r h'=>r=.tup [.agg (nCells (f p c).1),.d (.int .i64 (f p c).2.1)]∧h'=[.row (rdr b st (f p c).2.2.1 (f p c).2.2.2)])
theorem objects_spec (b:List UInt8) (st:Bool) (f:Rd) (e d:Nat) (hb:b.length≤1000000) (he:e≤b.length) (hd:d≤100) (hf:RdOk f e) (H:ObjS b st f e d) (p c m:Nat) (hp:p≤e) (hc:c≤256) (hm:e < p+m) :
  Spec Tryz.prog 116 [.ptr 0 0,.d (.int .i64 (e:Int)),.d (.int .i64 (d:Int))] [.row (rdr b st p c)]
   (fun r h'=>r=.tup [.d (.sl 3 (encNs (loopX f e m p c []).1)),.d (.int .i64 (loopX f e m p c []).2.1)]∧h'=[.row (rdr b st (loopX f e m p c []).2.2.1 (loopX f e m p c []).2.2.2)]):=by
 refine qAb hT Tryz.func116 rfl rfl rfl rfl ?_
 intro E hE
 generalize hfin:loopX f e m p c []=fin
 refine qAo ?_
 refine qAu (qAn ?_)
 refine wws ?_
 refine qAu (qAn ?_)
 refine wws ?_
 refine qBh 8 3 1 (es:=[]) (.inr ⟨rfl,rfl⟩) rfl ?_
 refine ww ?_
 refine qBu (ι:=Nat×Nat×Nat×List Node) (fun x=>[(0,.ptr 0 0),(1,.d (.int .i64 (e:Int))),(2,.d (.int .i64 (d:Int))),(8,.sl 3 (encNs x.2.2.2) (.right 1))]) (fun x=>[.row (rdr b st x.1 x.2.1),.right 3 (encNs x.2.2.2).length])
  (fun x=>x.1≤e∧x.2.1≤256∧e < x.1+x.2.2.1∧x.2.2.2.length≤x.1∧loopX f e x.2.2.1 x.1 x.2.1 x.2.2.2=fin) (fun x=>e-x.1) (p,c,m,[]) ⟨hp,hc,hm,by simp,hfin⟩ ⟨.refl _,.refl _,.refl _,.refl _,trivial⟩ ⟨.refl _,.refl _,trivial⟩ ?_
 rintro ⟨p,c,m,out⟩ ⟨hp,hc,hm,ho,hg⟩
 simp only at hp hc hm ho hg ⊢
 have hol:=qAm out
 refine ww ?_
 refine qAa rfl (fun h1=>?_) (fun h1=>?_)
 ·have h1':p < e:=by simpa using h1
  obtain ⟨m,rfl⟩:∃ m',m=m'+1:=⟨m-1,by omega⟩
  have hob:=H p c hp hc
  have hok:=hf p c hp hc
  rw [loopX,if_pos h1'] at hg
  generalize f p c=q at hob hok hg
  obtain ⟨⟨t,v,k⟩,er,p',c'⟩:=q
  simp only [nCells] at hob hok hg
  refine ww ?_
  refine qAd (callS1 rfl rfl hob [0] (by decide) rfl rfl rfl rfl rfl rfl rfl) rfl ?_
  refine ww ?_
  refine qAa rfl (fun h2=>?_) (fun h2=>?_)
  ·have h2':er≠0:=by simpa using h2
   rw [if_pos h2'] at hg
   subst hg
   refine ww ?_
   exact qAg (r:=.tup [.d (.sl 3 (encNs [])),.d (.int .i64 er)]) rfl (AV.le.tup ⟨AV.le.nils,.refl _,trivial⟩) rfl rfl rfl rfl ⟨rfl,rfl⟩
  ·have h2':¬ er≠0:=by simpa using h2
   have hok2:=hok.2.2.2 (by simpa using h2)
   rw [if_neg h2'] at hg
   refine ww ?_
   refine qAd (qAk (i:=1) hT rfl rfl rfl rfl rfl rfl (by show ((encNs out).length+1)*(56+1)≤_;omega)) rfl ?_
   refine ww ?_
   have hres:encNs (out++[.mk t v k])=encNs out++[encN (.mk t v k)]:=by rw [qDs];rfl
   exact ⟨(p',c',m,out++[.mk t v k]),[_],⟨hok.2.1,hok2.2,by simp only;omega,by simp only [List.length_append,List.length_singleton];omega,hg⟩,by simp only;omega,⟨.refl _,.refl _,.refl _,AV.le.eq (by rw [hres];rfl),trivial⟩,⟨ObLe.refl _,⟨rfl,by rw [hres];rfl⟩,ObLe.refl _,trivial⟩,Env.below_mono hE (by simp),rfl,rfl⟩
 ·have h1':¬ p < e:=by simpa using h1
  have hgf:(out,(0:Int),p,c)=fin:=by
   rw [← hg]
   cases m with
   | zero=>rfl
   | succ m=>rw [loopX,if_neg h1']
  subst hgf
  refine ww ?_
  exact qAg (r:=.tup [.d (.sl 3 (encNs out)),.d (.int .i64 0)]) rfl (AV.le.tup ⟨AV.le.dat,.refl _,trivial⟩) rfl rfl rfl rfl ⟨rfl,rfl⟩
end Tdoc
namespace Tdoc
open Go Go.Proofs
theorem kids_spec (b:List UInt8) (st:Bool) (f:Rd) (e d:Nat) (hb:b.length≤1000000) (he:e≤b.length) (hd:d≤100) (hf:RdOk f e) (H:ObjS b st f e d) (p c m:Nat) (hp:p≤e) (hc:c≤256) (hm:e < p+m) :
  Spec Tryz.prog 237 [.ptr 0 0,.d (.int .i64 (e:Int)),.d (.int .i64 (d:Int))] [.row (rdr b st p c)]
   (fun r h'=>r=.tup [.d (.sl 3 (encNs (kidsX b f e m p c []).1)),.d (.int .i64 (kidsX b f e m p c []).2.1)]∧h'=[.row (rdr b st (kidsX b f e m p c []).2.2.1 (kidsX b f e m p c []).2.2.2)]):=by
 refine qAb hT Tryz.func237 rfl rfl rfl rfl ?_
 intro E hE
 generalize hfin:kidsX b f e m p c []=fin
 refine qAo ?_
 refine qAu (qAn ?_)
 refine wws ?_
 refine qAu (qAn ?_)
 refine wws ?_
 refine qBh 8 3 1 (es:=[]) (.inr ⟨rfl,rfl⟩) rfl ?_
 refine AW_block ?_
 refine qBu (ι:=Nat×Nat×Nat×List Node) (fun x=>[(0,.ptr 0 0),(1,.d (.int .i64 (e:Int))),(2,.d (.int .i64 (d:Int))),(8,.sl 3 (encNs x.2.2.2) (.right 1))]) (fun x=>[.row (rdr b st x.1 x.2.1),.right 3 (encNs x.2.2.2).length])
  (fun x=>x.1≤e∧x.2.1≤256∧e < x.1+x.2.2.1∧x.2.2.2.length≤x.1∧kidsX b f e x.2.2.1 x.1 x.2.1 x.2.2.2=fin) (fun x=>e-x.1) (p,c,m,[]) ⟨hp,hc,hm,by simp,hfin⟩ ⟨.refl _,.refl _,.refl _,.refl _,trivial⟩ ⟨.refl _,.refl _,trivial⟩ ?_
 rintro ⟨p,c,m,out⟩ ⟨hp,hc,hm,ho,hg⟩
 simp only at hp hc hm ho hg ⊢
 have hol:=qAm out
 obtain ⟨m,rfl⟩:∃ m',m=m'+1:=⟨m-1,by omega⟩
 rw [kidsX] at hg
 have hwr:IntKind.i64.wrap ((p:Int)+1)=((p+1:Nat):Int):=by rw [qAe (by omega)];simp
 have hwr2:IntKind.i64.wrap ((p:Int)+2)=((p+2:Nat):Int):=by rw [qAe (by omega)];simp
 have hx:=qCw b p
 have hx1:=qCw b (p+1)
 refine ww ?_
 refine AWd_gop rfl rfl rfl rfl (fun hg=>⟨⟨hg,hg,True.intro⟩,qAc (qAi hT rfl rfl rfl rfl (by omega) (show (encB b)[((p:Int)).toNat]?=some [.int .u8 (byteAt b p:Int)] from encB_byte (by simp [gval] at hg;omega)))⟩) ?_
 refine ww ?_
 refine qAa rfl (fun h1=>?_) (fun h1=>?_)
 ·have h1':e≤p∨(byteAt b p=0∧e≤p+1):=by
   rw [hwr] at h1
   simp only [Bool.or_eq_true,Bool.and_eq_true,decide_eq_true_eq,beq_iff_eq] at h1
   omega
  rw [if_pos h1'] at hg
  subst hg
  refine ww ?_
  exact qAg (r:=.tup [.d (.sl 3 (encNs [])),.d (.int .i64 6)]) rfl (AV.le.tup ⟨AV.le.nils,.refl _,trivial⟩) rfl rfl rfl rfl ⟨rfl,rfl⟩
 ·have h1':¬ (e≤p∨(byteAt b p=0∧e≤p+1)):=by
   intro hh
   have:(decide ((p:Int)≥(e:Int))||(byteAt b p:Int) == 0&&decide (IntKind.i64.wrap ((p:Int)+1)≥(e:Int)))=true:=by
    rw [hwr]
    simp only [Bool.or_eq_true,Bool.and_eq_true,decide_eq_true_eq,beq_iff_eq]
    omega
   exact absurd (this.symm.trans h1) (by simp)
  rw [if_neg h1'] at hg
  have hel:(encB b)[((p:Int)).toNat]?=some [.int .u8 (byteAt b p:Int)]:=encB_byte (by omega)
  refine ww ?_
  refine qAp (qAc (qAi hT rfl rfl rfl rfl (by omega) hel)) rfl rfl ?_
  refine ww ?_
  refine AWd_gop rfl rfl rfl rfl (fun hg=>⟨⟨hg,hg,True.intro⟩,qAc (qAi hT rfl rfl rfl rfl (by rw [hwr];omega) (show (encB b)[(IntKind.i64.wrap ((p:Int)+1)).toNat]?=some [.int .u8 (byteAt b (p+1):Int)] from by rw [hwr];exact encB_byte (by simp [gval] at hg;omega)))⟩) ?_
  refine ww ?_
  refine qAa rfl (fun h2=>?_) (fun h2=>?_)
  ·have h2':byteAt b p=0∧byteAt b (p+1)=0:=by
    simp only [Bool.and_eq_true,beq_iff_eq] at h2
    omega
   rw [if_pos h2'] at hg
   subst hg
   refine ww ?_
   exact qAg (r:=.tup [.d (.sl 3 (encNs out)),.d (.int .i64 0)]) rfl (AV.le.tup ⟨AV.le.dat,.refl _,trivial⟩) rfl rfl rfl rfl ⟨rfl,by rw [hwr2];rfl⟩
  ·have h2':¬ (byteAt b p=0∧byteAt b (p+1)=0):=by
    intro hh
    have:((byteAt b p:Int) == 0&&(byteAt b (p+1):Int) == 0)=true:=by
     simp only [Bool.and_eq_true,beq_iff_eq]
     omega
    exact absurd (this.symm.trans h2) (by simp)
   rw [if_neg h2'] at hg
   have hob:=H p c hp hc
   have hok:=hf p c hp hc
   generalize f p c=q at hob hok hg
   obtain ⟨⟨t,v,k⟩,er,p',c'⟩:=q
   simp only [nCells] at hob hok hg
   refine ww ?_
   refine qAd (callS1 rfl rfl hob [0] (by decide) rfl rfl rfl rfl rfl rfl rfl) rfl ?_
   refine ww ?_
   refine qAa rfl (fun h3=>?_) (fun h3=>?_)
   ·have h3':er≠0:=by simpa using h3
    rw [if_pos h3'] at hg
    subst hg
    refine ww ?_
    exact qAg (r:=.tup [.d (.sl 3 (encNs [])),.d (.int .i64 er)]) rfl (AV.le.tup ⟨AV.le.nils,.refl _,trivial⟩) rfl rfl rfl rfl ⟨rfl,rfl⟩
   ·have h3':¬ er≠0:=by simpa using h3
    have hok2:=hok.2.2.2 (by simpa using h3)
    rw [if_neg h3'] at hg
    refine ww ?_
    refine qAd (qAk (i:=1) hT rfl rfl rfl rfl rfl rfl (by show ((encNs out).length+1)*(56+1)≤_;omega)) rfl ?_
    refine ww ?_
    have hres:encNs (out++[.mk t v k])=encNs out++[encN (.mk t v k)]:=by rw [qDs];rfl
    exact ⟨(p',c',m,out++[.mk t v k]),[_],⟨hok.2.1,hok2.2,by simp only;omega,by simp only [List.length_append,List.length_singleton];omega,hg⟩,by simp only;omega,⟨.refl _,.refl _,.refl _,AV.le.eq (by rw [hres];rfl),trivial⟩,⟨ObLe.refl _,⟨rfl,by rw [hres];rfl⟩,ObLe.refl _,trivial⟩,Env.below_mono hE (by simp),rfl,rfl⟩
end Tdoc
namespace Tdoc
open Go Go.Proofs
theorem tagX_ok (b:List UInt8) {e p:Nat} (hp:p≤e):p≤(tagX b e p).2.2∧(tagX b e p).2.2≤e∧((tagX b e p).2.1=0→p < (tagX b e p).2.2)∧0≤(tagX b e p).1∧(tagX b e p).1 < 65536:=by
 have hx:=qCw b p
 have hx1:=qCw b (p+1)
 unfold tagX
 split
 ·exact ⟨Nat.le_refl _,hp,fun h=>by simp at h,by simp,by simp⟩
 ·split
  ·split
   ·exact ⟨by show p≤p+1;omega,by show p+1≤e;omega,fun h=>by simp at h,by simp,by simp⟩
   ·split
    ·exact ⟨by show p≤p+2;omega,by show p+2≤e;omega,fun h=>by show p < p+2;omega,by show (0:Int)≤((_:Nat):Int);omega,by show ((_:Nat):Int) < 65536;omega⟩
    ·exact ⟨by show p≤p+2;omega,by show p+2≤e;omega,fun h=>by simp at h,by simp,by simp⟩
  ·split
   ·exact ⟨by show p≤p+1;omega,by show p+1≤e;omega,fun h=>by show p < p+1;omega,by show (0:Int)≤((_:Nat):Int);omega,by show ((_:Nat):Int) < 65536;omega⟩
   ·exact ⟨by show p≤p+1;omega,by show p+1≤e;omega,fun h=>by simp at h,by simp,by simp⟩
theorem lenX_ok (b:List UInt8) {e p:Nat} (op st:Bool) (hp:p≤e):p≤(lenX b e op st p).2.2∧(lenX b e op st p).2.2≤e∧((lenX b e op st p).2.1=0→p < (lenX b e op st p).2.2)∧-1≤(lenX b e op st p).1∧(lenX b e op st p).1 < 4294967296:=by
 have hx:=qCw b p
 unfold lenX
 split
 ·exact ⟨Nat.le_refl _,hp,fun h=>by simp at h,by simp,by simp⟩
 ·split
  ·exact ⟨by show p≤p+1;omega,by show p+1≤e;omega,fun h=>by show p < p+1;omega,by show (-1:Int)≤((_:Nat):Int);omega,by show ((_:Nat):Int) < _;omega⟩
  ·split
   ·exact ⟨by show p≤p+1;omega,by show p+1≤e;omega,fun h=>by simp at h,by simp,by simp⟩
   ·split
    ·exact ⟨by show p≤p+1;omega,by show p+1≤e;omega,fun h=>by show p < p+1;omega,by simp,by simp⟩
    ·split
     ·exact ⟨by show p≤p+1;omega,by show p+1≤e;omega,fun h=>by simp at h,by simp,by simp⟩
     ·have hk:byteAt b p % 16≤4:=by omega
      split
      ·exact ⟨by show p≤p+1+_;omega,by show p+1+_≤e;omega,fun h=>by simp at h,by simp,by simp⟩
      ·have h1:=numB_lt b (byteAt b p % 16) (p+1) 0 0 (by simp)
       have h2:256 ^ (0+byteAt b p % 16)≤256 ^ 4:=Nat.pow_le_pow_right (by omega) (by omega)
       exact ⟨by show p≤p+1+_;omega,by show p+1+_≤e;omega,fun h=>by show p < p+1+_;omega,by show (-1:Int)≤((_:Nat):Int);omega,by show ((_:Nat):Int) < _;omega⟩
def objY (b:List UInt8) (g:Nat→Rd) (e d:Nat) (t:Int) (n:Int×Int×Nat) (c:Nat):Node×Int×Nat×Nat :=
 if n.2.1≠0 then (.mk 0 [] [],n.2.1,n.2.2,c)
 else if d > 8 then (.mk 0 [] [],7,n.2.2,c+1)
 else if c+1 > 256 then (.mk 0 [] [],2,n.2.2,c+1)
 else if n.1 > (e:Int)-(n.2.2:Int) then (.mk 0 [] [],6,n.2.2,c+1)
 else if n.1 = -1 then (.mk t [] (kidsX b (g e) e (e+1) n.2.2 (c+1) []).1,(kidsX b (g e) e (e+1) n.2.2 (c+1) []).2)
 else if tagCons t=true then (.mk t [] (loopX (g (n.2.2+n.1.toNat)) (n.2.2+n.1.toNat) (e+1) n.2.2 (c+1) []).1,(loopX (g (n.2.2+n.1.toNat)) (n.2.2+n.1.toNat) (e+1) n.2.2 (c+1) []).2)
 else (.mk t ((b.drop n.2.2).take n.1.toNat) [],0,n.2.2+n.1.toNat,c+1)
def objX (b:List UInt8) (st:Bool):Nat→Nat→Nat→Nat→Nat→Node×Int×Nat×Nat
 | 0,e,d,p,c=>(.mk 0 [] [],7,p,c)
 | k+1,e,d,p,c =>
  if (tagX b e p).2.1≠0 then (.mk 0 [] [],(tagX b e p).2.1,(tagX b e p).2.2,c)
  else objY b (fun e'=>objX b st k e' (d+1)) e d (tagX b e p).1 (lenX b e (tagCons (tagX b e p).1&&!st) st (tagX b e p).2.2) c
theorem objX_ok (b:List UInt8) (st:Bool):∀ (k e d:Nat),RdOk (objX b st k e d) e
 | 0,e,d=>fun p c hp hc=>⟨Nat.le_refl _,hp,by show c≤257;omega,fun h=>by simp [objX] at h⟩
 | k+1,e,d=>fun p c hp hc=>by
  have h1:=tagX_ok b hp
  rw [objX]
  split
  ·rename_i he
   exact ⟨h1.1,h1.2.1,by show c≤257;omega,fun h=>absurd h he⟩
  ·rename_i he
   have h1':=h1.2.2.1 (by simpa using he)
   have h2:=lenX_ok b (tagCons (tagX b e p).1&&!st) st h1.2.1
   generalize lenX b e (tagCons (tagX b e p).1&&!st) st (tagX b e p).2.2=n at h2
   obtain ⟨n,e2,q⟩:=n
   simp only at h2
   have hq1:=h2.1
   have hq2:=h2.2.1
   unfold objY
   simp only
   split
   ·rename_i he2
    exact ⟨by show p≤q;omega,hq2,by show c≤257;omega,fun h=>absurd h he2⟩
   ·split
    ·exact ⟨by show p≤q;omega,hq2,by show c+1≤257;omega,fun h=>by simp at h⟩
    ·split
     ·exact ⟨by show p≤q;omega,hq2,by show c+1≤257;omega,fun h=>by simp at h⟩
     ·split
      ·exact ⟨by show p≤q;omega,hq2,by show c+1≤257;omega,fun h=>by simp at h⟩
      ·rename_i hn
       split
       ·have:=kidsX_ok (b:=b) (objX_ok b st k e (d+1)) (e+1) q (c+1) [] hq2 (by omega)
        exact ⟨Nat.le_trans (by omega) this.1,this.2.1,this.2.2.1,fun h=>⟨Nat.lt_of_lt_of_le (by omega) this.1,this.2.2.2 h⟩⟩
       ·have hle:q+n.toNat≤e:=by omega
        split
        ·have:=loopX_ok (objX_ok b st k (q+n.toNat) (d+1)) (e+1) q (c+1) [] (by omega) (by omega)
         exact ⟨Nat.le_trans (by omega) this.1,Nat.le_trans this.2.1 hle,this.2.2.1,fun h=>⟨Nat.lt_of_lt_of_le (by omega) this.1,this.2.2.2 h⟩⟩
        ·exact ⟨by show p≤q+n.toNat;omega,hle,by show c+1≤257;omega,fun h=>⟨by show p < q+n.toNat;omega,by show c+1≤256;omega⟩⟩
set_option maxHeartbeats 16000000 in
set_option maxRecDepth 100000 in
theorem object_spec (b:List UInt8) (st:Bool) (hb:b.length≤1000000):∀ (k d e:Nat),e≤b.length→d+k=9→ObjS b st (objX b st (k+1) e d) e d:=by
 intro k
 induction k using Nat.strongRecOn with
 | _ k ih =>
 intro d e he hdk p c hp hc
 generalize hfin:objX b st (k+1) e d p c=fin
 rw [objX] at hfin
 have htag:=tag_spec b st e p c hb he hp
 have htok:=tagX_ok b hp
 generalize tagX b e p=tq at htag htok hfin
 obtain ⟨t,e1,p1⟩:=tq
 simp only at htag htok hfin
 have hcon:=qCr t (by omega)
 have hlen:=len_spec b (tagCons t&&!st) st e p1 c hb he htok.2.1
 have hlok:=lenX_ok b (tagCons t&&!st) st htok.2.1
 generalize lenX b e (tagCons t&&!st) st p1=nq at hlen hlok hfin
 obtain ⟨n,e2,q⟩:=nq
 simp only [objY] at hlen hlok hfin
 generalize tagCons t=con at hcon hlen hfin
 have hwc:IntKind.i64.wrap ((c:Int)+1)=((c+1:Nat):Int):=by rw [qAe (by omega)];simp
 have hwd:IntKind.i64.wrap ((d:Int)+1)=((d+1:Nat):Int):=by rw [qAe (by omega)];simp
 refine qAb hT Tryz.func180 rfl rfl rfl rfl ?_
 intro E hE
 refine ww ?_
 refine qAd (callS1 rfl rfl htag [0] (by decide) rfl rfl rfl rfl rfl rfl rfl) rfl ?_
 refine ww ?_
 refine qAa rfl (fun h1=>?_) (fun h1=>?_)
 ·have h1':e1≠0:=by simpa using h1
  rw [if_pos h1'] at hfin
  subst hfin
  refine ww ?_
  exact qAg (r:=.tup [.agg (nCells (.mk 0 [] [])),.d (.int .i64 e1)]) rfl (AV.le.tup ⟨AV.le.agg ⟨.refl _,AV.le.dat,AV.le.dat,trivial⟩,.refl _,trivial⟩) rfl rfl rfl rfl ⟨rfl,rfl⟩
 ·have h1':¬ e1≠0:=by simpa using h1
  rw [if_neg h1'] at hfin
  refine ww ?_
  refine qAd (callS0 rfl rfl hcon rfl rfl rfl) rfl ?_
  refine ww ?_
  refine qAd (callS1 rfl rfl hlen [0] (by decide) rfl rfl rfl rfl rfl rfl rfl) rfl ?_
  refine ww ?_
  refine qAa rfl (fun h2=>?_) (fun h2=>?_)
  ·have h2':e2≠0:=by simpa using h2
   rw [if_pos h2'] at hfin
   subst hfin
   refine ww ?_
   exact qAg (r:=.tup [.agg (nCells (.mk 0 [] [])),.d (.int .i64 e2)]) rfl (AV.le.tup ⟨AV.le.agg ⟨.refl _,AV.le.dat,AV.le.dat,trivial⟩,.refl _,trivial⟩) rfl rfl rfl rfl ⟨rfl,rfl⟩
  ·have h2':¬ e2≠0:=by simpa using h2
   rw [if_neg h2'] at hfin
   have hwe:IntKind.i64.wrap ((e:Int)-(q:Int))=(e:Int)-(q:Int):=qAe (by omega)
   refine ww ?_
   refine qAa rfl (fun h3=>?_) (fun h3=>?_)
   ·have h3':d > 8:=by simp at h3;omega
    rw [if_pos h3'] at hfin
    subst hfin
    refine ww ?_
    exact qAg (r:=.tup [.agg (nCells (.mk 0 [] [])),.d (.int .i64 7)]) rfl (AV.le.tup ⟨AV.le.agg ⟨.refl _,AV.le.dat,AV.le.dat,trivial⟩,.refl _,trivial⟩) rfl rfl rfl rfl ⟨rfl,by rw [hwc];rfl⟩
   ·have h3':¬ d > 8:=by simp at h3;omega
    rw [if_neg h3'] at hfin
    refine ww ?_
    refine qAa rfl (fun h4=>?_) (fun h4=>?_)
    ·have h4':c+1 > 256:=by rw [hwc] at h4;simp at h4;omega
     rw [if_pos h4'] at hfin
     subst hfin
     refine ww ?_
     exact qAg (r:=.tup [.agg (nCells (.mk 0 [] [])),.d (.int .i64 2)]) rfl (AV.le.tup ⟨AV.le.agg ⟨.refl _,AV.le.dat,AV.le.dat,trivial⟩,.refl _,trivial⟩) rfl rfl rfl rfl ⟨rfl,by rw [hwc];rfl⟩
    ·have h4':¬ c+1 > 256:=by rw [hwc] at h4;simp at h4;omega
     rw [if_neg h4'] at hfin
     refine ww ?_
     refine qAa rfl (fun h5=>?_) (fun h5=>?_)
     ·have h5':n > (e:Int)-(q:Int):=by rw [hwe] at h5;simp at h5;omega
      rw [if_pos h5'] at hfin
      subst hfin
      refine ww ?_
      exact qAg (r:=.tup [.agg (nCells (.mk 0 [] [])),.d (.int .i64 6)]) rfl (AV.le.tup ⟨AV.le.agg ⟨.refl _,AV.le.dat,AV.le.dat,trivial⟩,.refl _,trivial⟩) rfl rfl rfl rfl ⟨rfl,by rw [hwc];rfl⟩
     ·have h5':¬ n > (e:Int)-(q:Int):=by rw [hwe] at h5;simp at h5;omega
      rw [if_neg h5'] at hfin
      obtain ⟨k,rfl⟩:∃ k',k=k'+1:=⟨k-1,by omega⟩
      have hrow:rdr b st q (c+1)=[.d (.sl 1 (encB b)),.d (.int .i64 (q:Int)),.d (.bool st),.d (.int .i64 (IntKind.i64.wrap ((c:Int)+1)))]:=by rw [hwc];rfl
      refine ww ?_
      refine qAa rfl (fun h6=>?_) (fun h6=>?_)
      ·have h6':n = -1:=by simpa using h6
       rw [if_pos h6'] at hfin
       have hkd:=kids_spec b st (objX b st (k+1) e (d+1)) e (d+1) hb he (by omega) (objX_ok b st (k+1) e (d+1)) (ih k (by omega) (d+1) e he (by omega)) q (c+1) (e+1) hlok.2.1 (by omega) (by omega)
       rw [← hwd,hrow] at hkd
       generalize kidsX b (objX b st (k+1) e (d+1)) e (e+1) q (c+1) []=kr at hkd hfin
       obtain ⟨ks,e3,p3,c3⟩:=kr
       simp only at hkd hfin
       subst hfin
       refine ww ?_
       refine qAd (callS1 rfl rfl hkd [0] (by decide) rfl rfl rfl rfl rfl rfl rfl) rfl ?_
       refine ww ?_
       exact qAg (r:=.tup [.agg (nCells (.mk t [] ks)),.d (.int .i64 e3)]) rfl (AV.le.tup ⟨AV.le.agg ⟨.refl _,AV.le.dat,.refl _,trivial⟩,.refl _,trivial⟩) rfl rfl rfl rfl ⟨rfl,rfl⟩
      ·have h6':¬ n = -1:=by simpa using h6
       rw [if_neg h6'] at hfin
       obtain ⟨nn,rfl⟩:=Int.eq_ofNat_of_zero_le (show 0≤n by omega)
       rw [Int.toNat_natCast] at hfin
       have hwn:IntKind.i64.wrap ((q:Int)+(nn:Int))=((q+nn:Nat):Int):=by rw [qAe (by omega)];simp
       refine ww ?_
       refine qAa rfl (fun h7=>?_) (fun h7=>?_)
       ·rw [if_pos h7] at hfin
        have hob:=objects_spec b st (objX b st (k+1) (q+nn) (d+1)) (q+nn) (d+1) hb (by omega) (by omega) (objX_ok b st (k+1) (q+nn) (d+1)) (ih k (by omega) (d+1) (q+nn) (by omega) (by omega)) q (c+1) (e+1) (by omega) (by omega) (by omega)
        rw [← hwd,← hwn,hrow] at hob
        generalize loopX (objX b st (k+1) (q+nn) (d+1)) (q+nn) (e+1) q (c+1) []=kr at hob hfin
        obtain ⟨ks,e3,p3,c3⟩:=kr
        simp only at hob hfin
        subst hfin
        refine ww ?_
        refine qAd (callS1 rfl rfl hob [0] (by decide) rfl rfl rfl rfl rfl rfl rfl) rfl ?_
        refine ww ?_
        exact qAg (r:=.tup [.agg (nCells (.mk t [] ks)),.d (.int .i64 e3)]) rfl (AV.le.tup ⟨AV.le.agg ⟨.refl _,AV.le.dat,.refl _,trivial⟩,.refl _,trivial⟩) rfl rfl rfl rfl ⟨rfl,rfl⟩
       ·have h7':¬ con=true:=by simp [h7]
        rw [if_neg h7'] at hfin
        subst hfin
        refine wwe ?_
        have hbl:=qAl b
        have hwn2:IntKind.i64.wrap (((q+nn:Nat):Int))=((q+nn:Nat):Int):=qAe (by omega)
        have hcut:cutL (encB b) (q:Int) (IntKind.i64.wrap ((q:Int)+(nn:Int)))=encB ((b.drop q).take nn):=by
         rw [hwn];unfold cutL;rw [encB_drop,encB_take,Int.toNat_natCast];congr 2;omega
        have hcl:=CloneB_spec (cutL (encB b) (q:Int) (IntKind.i64.wrap ((q:Int)+(nn:Int)))) (by rw [hcut,qAl,List.length_take,List.length_drop];omega)
        refine qAu ?_
        refine qBg (fun i=>bif Nat.beq i 3||Nat.beq i 7||Nat.beq i 11 then [0] else bif Nat.beq i 17 then [2] else []) (fun i=>bif Nat.beq i 17 then [2] else []) mixed (by kernel_rfl) ?_
        refine wwg ?_
        refine qAs (os:=[]) (fun k hk1 hk2=>callS0 rfl rfl hcl rfl rfl rfl) rfl ?_
        refine wwg ?_
        refine ww ?_
        exact qAg (r:=.tup [.agg (nCells (.mk t ((b.drop q).take nn) [])),.d (.int .i64 0)]) rfl (AV.le.tup ⟨AV.le.agg ⟨.refl _,AV.le.eq (congrArg (fun z=>AV.d (.sl 1 z)) hcut),AV.le.dat,trivial⟩,AV.le.eq (congrArg (fun z=>AV.d (.int .i64 z)) (show e2=0 by omega)),trivial⟩) rfl rfl rfl rfl ⟨rfl,by rw [hwc,hwn];rfl⟩
def parseX (b:List UInt8) (st:Bool):List Node×Int :=
 if b.length > 4096 then ([],2) else ((loopX (objX b st 9 b.length 1) b.length (b.length+1) 0 0 []).1,(loopX (objX b st 9 b.length 1) b.length (b.length+1) 0 0 []).2.1)
set_option maxHeartbeats 4000000 in
set_option maxRecDepth 100000 in
theorem Parse_small (b:List UInt8) (st:Bool) (hb:b.length≤1000000) :
  Spec Tryz.prog 58 [.d (.sl 1 (encB b)),.d (.bool st)] [] (fun r h'=>r=.tup [.d (.sl 3 (encNs (parseX b st).1)),.d (.int .i64 (parseX b st).2)]∧h'=[]):=by
 have hbl:=qAl b
 have hob:=objects_spec b st (objX b st 9 b.length 1) b.length 1 hb (Nat.le_refl _) (by omega) (objX_ok b st 9 b.length 1) (object_spec b st hb 8 1 b.length (Nat.le_refl _) rfl) 0 0 (b.length+1) (by omega) (by omega) (by omega)
 refine qAb hT Tryz.func58 rfl rfl rfl rfl ?_
 intro E hE
 unfold parseX
 refine ww ?_
 refine qAa rfl (fun h1=>?_) (fun h1=>?_)
 ·have h1':b.length > 4096:=by rw [hbl] at h1;simp at h1;omega
  rw [if_pos h1']
  refine ww ?_
  exact qAg (r:=.tup [.d (.sl 3 (encNs [])),.d (.int .i64 2)]) rfl (AV.le.tup ⟨AV.le.nils,.refl _,trivial⟩) rfl rfl rfl rfl ⟨rfl,rfl⟩
 ·have h1':¬ b.length > 4096:=by rw [hbl] at h1;simp at h1;omega
  rw [if_neg h1']
  generalize loopX (objX b st 9 b.length 1) b.length (b.length+1) 0 0 []=kr at hob
  obtain ⟨ks,e3,p3,c3⟩:=kr
  simp only at hob ⊢
  rw [← hbl] at hob
  refine ww ?_
  refine qAd (callS1 rfl rfl hob [0] (by decide) rfl rfl rfl rfl rfl rfl rfl) rfl ?_
  refine ww ?_
  exact qAg rfl (.refl _) rfl rfl rfl rfl ⟨rfl,rfl⟩
theorem Parse_spec (b:List UInt8) (st:Bool) (hb:b.length≤9223372036854775807) :
  Spec Tryz.prog 58 [.d (.sl 1 (encB b)),.d (.bool st)] [] (fun r h'=>r=.tup [.d (.sl 3 (encNs (parseX b st).1)),.d (.int .i64 (parseX b st).2)]∧h'=[]):=by
 by_cases hsm:b.length≤4096
 ·exact Parse_small b st (by omega)
 have hbl:=qAl b
 unfold parseX
 rw [if_pos (show b.length > 4096 by omega)]
 refine qAb hT Tryz.func58 rfl rfl rfl rfl ?_
 intro E hE
 refine ww ?_
 refine qAa rfl (fun h1=>?_) (fun h1=>?_)
 ·refine ww ?_
  exact qAg (r:=.tup [.d (.sl 3 (encNs [])),.d (.int .i64 2)]) rfl (AV.le.tup ⟨AV.le.nils,.refl _,trivial⟩) rfl rfl rfl rfl ⟨rfl,rfl⟩
 ·rw [hbl] at h1
  simp at h1
  omega
end Tdoc
namespace Tdoc
open Go Go.Proofs
def encI (l:List Int):List (List Dat):=l.map fun n=>[.int .i64 n]
theorem qDk (l:List Int):(encI l).length=l.length:=by simp [encI]
theorem encI_append (a b:List Int):encI (a++b)=encI a++encI b:=by simp [encI]
theorem encI_at {l:List Int} {i:Nat} (h:i < l.length):(encI l)[((i:Int)).toNat]?=some [.int .i64 l[i]]:=by simp [encI,h]
def ascX:Int→List Int→Int
 | _,[]=>0
 | bf,n::l=>if n < 1∨n > 16 then 3 else if n≤bf then 17 else ascX n l
set_option maxHeartbeats 4000000 in
set_option maxRecDepth 100000 in
theorem ascending_spec (l:List Int) (hl:l.length≤9223372036854775807):Spec Tryz.prog 106 [.d (.sl 1 (encI l))] [] (fun r h'=>r=.d (.int .i64 (ascX 0 l))∧h'=[]):=by
 have hlen:=qDk l
 refine qAb hT Tryz.func106 rfl rfl rfl rfl ?_
 intro E hE
 generalize hfin:ascX 0 l=fin
 refine ww ?_
 refine qAq (ι:=Nat×Int) (fun x=>[(3,.d (.int .i64 x.2)),(6,.d (.sl 1 (encI l))),(7,.d (.int .i64 ((encI l).length:Int))),(8,.d (.int .i64 (x.1:Int)))]) (fun _=>[]) (fun x=>x.1≤l.length∧ascX x.2 (l.drop x.1)=fin) (fun x=>l.length-x.1) (0,0) ⟨by simp,by simpa using hfin⟩
  ⟨.refl _,.refl _,.refl _,.refl _,trivial⟩ (HLe.refl _) ?_
 rintro ⟨i,bf⟩ ⟨hi,hg⟩
 simp only at hi hg ⊢
 refine ww ?_
 refine qAa rfl (fun h1=>?_) (fun h1=>?_)
 ·have h1':i < l.length:=by rw [hlen] at h1;simpa using h1
  have hwr:IntKind.i64.wrap ((i:Int)+1)=((i+1:Nat):Int):=by rw [qAe (by omega)];simp
  have hdrop:l.drop i=l[i]::l.drop (i+1):=by simp
  have hel:=encI_at h1'
  rw [hdrop,ascX] at hg
  generalize l[i]=x at hel hg
  refine ww ?_
  refine qAd (qAc (qAi hT rfl rfl rfl rfl (by omega) hel)) rfl ?_
  refine ww ?_
  refine qAa rfl (fun h2=>?_) (fun h2=>?_)
  ·have h2':x < 1∨x > 16:=by simpa using h2
   rw [if_pos h2'] at hg
   subst hg
   refine ww ?_
   exact qAg rfl (.refl _) rfl rfl rfl rfl ⟨rfl,rfl⟩
  ·have h2':¬ (x < 1∨x > 16):=by simpa using h2
   rw [if_neg h2'] at hg
   refine ww ?_
   refine qAa rfl (fun h3=>?_) (fun h3=>?_)
   ·have h3':x≤bf:=by simpa using h3
    rw [if_pos h3'] at hg
    subst hg
    refine ww ?_
    exact qAg rfl (.refl _) rfl rfl rfl rfl ⟨rfl,rfl⟩
   ·have h3':¬ x≤bf:=by simpa using h3
    rw [if_neg h3'] at hg
    refine ww ?_
    exact ⟨(i+1,x),⟨by simp only;omega,hg⟩,by simp only;omega,⟨.refl _,.refl _,.refl _,AV.le.eq (congrArg (fun z=>AV.d (.int .i64 z)) hwr),trivial⟩,HLe.refl _⟩
 ·have hge:i=l.length:=by rw [hlen] at h1;simp at h1;omega
  subst hge
  rw [List.drop_length,ascX] at hg
  subst hg
  refine ww ?_
  exact qAg rfl (.refl _) rfl rfl rfl rfl ⟨rfl,rfl⟩
theorem ascX_range:∀ (bf:Int) (l:List Int),ascX bf l=0→∀ n,n∈l→1≤n∧n≤16
 | _,[],_,n,h=>by cases h
 | bf,a::l,h0,n,hn=>by
  rw [ascX] at h0
  split at h0
  ·simp at h0
  ·split at h0
   ·simp at h0
   ·cases hn with
    | head=>omega
    | tail _ hn=>exact ascX_range a l h0 n hn
theorem ascX_len16:∀ (bf:Int) (l:List Int),ascX bf l=0→bf≤16→(l.length:Int)+bf≤16
 | _,[],_,h=>by simpa using h
 | bf,a::l,h0,hb=>by
  rw [ascX] at h0
  split at h0
  ·simp at h0
  ·split at h0
   ·simp at h0
   ·have:=ascX_len16 a l h0 (by omega)
    simp only [List.length_cons];omega
def tagByte (n:Int):UInt8:=UInt8.ofNat ((tagTab[(n-1).toNat]?).getD 0).toNat
def commonP (l:List Int):List UInt8×Int :=
 if ascX 0 l≠0 then ([],ascX 0 l) else wrapG 17 [.mk 24321 [48,49,48,56] [],.mk 24374 [48,52,48,48,48,48] [],.mk 92 (l.map tagByte) []]
end Tdoc
namespace Tdoc
open Go Go.Proofs
def cmnKids (l:List Int):List Node:=[.mk 24321 [48,49,48,56] [],.mk 24374 [48,52,48,48,48,48] [],.mk 92 (l.map tagByte) []]
theorem qAf (t:Int) (v:List UInt8) (k r:List Node):(wrL (.mk t v k::r)).length≤11+v.length+(wrL k).length+(wrL r).length:=by
 have h1:=wrL_one_le t v k
 have h2:=congrArg List.length (wrL_append [.mk t v k] r)
 rw [List.length_append] at h2
 have h3:[Node.mk t v k]++r=.mk t v k::r:=rfl
 rw [h3] at h2
 omega
theorem tagTab_range:∀ y,y∈tagTab→0≤y∧y≤255:=by decide
set_option maxHeartbeats 4000000 in
set_option maxRecDepth 100000 in
theorem Common_spec (l:List Int) (hl:l.length≤9223372036854775807):Spec Tryz.prog 50 [.d (.sl 1 (encI l))] [] (fun r h'=>r=.tup [.d (.sl 1 (encB (commonP l).1)),.d (.int .i64 (commonP l).2)]∧h'=[]):=by
 have hlen:=qDk l
 have hasc:=ascending_spec l (by omega)
 have hrg:=ascX_range 0 l
 have h16:=ascX_len16 0 l
 have hwrap:=fun (h0:l.length≤16)=>Wrap_spec 17 (by omega) (cmnKids l) (by simp [cmnKids]) ⟨⟨by omega,by simp,by simp,trivial⟩,⟨by omega,by simp,by simp,trivial⟩,⟨by omega,by simp;omega,by simp,trivial⟩,trivial⟩ (by simp [cmnKids,sizeL,sizeN]) (by
  have h1:=qAf 24321 [48,49,48,56] [] [.mk 24374 [48,52,48,48,48,48] [],.mk 92 (l.map tagByte) []]
  have h2:=qAf 24374 [48,52,48,48,48,48] [] [.mk 92 (l.map tagByte) []]
  have h3:=wrL_one_le 92 (l.map tagByte) []
  simp only [wrL,List.length_cons,List.length_nil,List.length_map] at h1 h2 h3 ⊢
  simp only [cmnKids,wrL] at *
  omega)
 unfold commonP
 generalize ascX 0 l=e at hasc hrg h16
 refine qAb hT Tryz.func50 rfl rfl rfl rfl ?_
 intro E hE
 refine qAo ?_
 refine ww ?_
 refine qAd (callS0 rfl rfl hasc rfl rfl rfl) rfl ?_
 refine ww ?_
 refine qAa rfl (fun h1=>?_) (fun h1=>?_)
 ·have h1':e≠0:=by simpa using h1
  rw [if_pos h1']
  refine ww ?_
  exact qAg (r:=.tup [.d (.sl 1 (encB [])),.d (.int .i64 e)]) rfl (AV.le.tup ⟨AV.le.nils,.refl _,trivial⟩) rfl rfl rfl rfl ⟨rfl,rfl⟩
 ·have h1':¬ e≠0:=by simpa using h1
  have hrg:=hrg (by simpa using h1)
  rw [if_neg h1']
  have hl16:l.length≤16:=by have:=h16 (by simpa using h1) (by omega);omega
  have hwrap:=hwrap hl16
  refine wwe ?_
  refine qAu (qAn ?_)
  refine wws ?_
  refine qBh 5 1 0 (es:=[]) (.inr ⟨rfl,rfl⟩) rfl ?_
  refine ww ?_
  refine qAq (ι:=Nat) (fun i=>[(5,.sl 1 (encB ((l.take i).map tagByte)) (.right 0)),(13,.d (.sl 1 (encI l))),(14,.d (.int .i64 ((encI l).length:Int))),(15,.d (.int .i64 (i:Int)))]) (fun i=>[.right 1 (encB ((l.take i).map tagByte)).length]) (fun i=>i≤l.length) (fun i=>l.length-i) 0 (by omega)
   ⟨.refl _,.refl _,.refl _,.refl _,trivial⟩ (HLe.refl _) ?_
  intro i hi
  have hwr:IntKind.i64.wrap ((i:Int)+1)=((i+1:Nat):Int):=by rw [qAe (by omega)];simp
  refine ww ?_
  refine qAa rfl (fun h2=>?_) (fun h2=>?_)
  ·have h2':i < l.length:=by rw [hlen] at h2;simpa using h2
   have hel:=encI_at h2'
   have hr:=hrg l[i] (List.getElem_mem h2')
   have hsucc:(l.take (i+1)).map tagByte=(l.take i).map tagByte++[tagByte l[i]]:=by rw [List.take_succ_eq_append_getElem h2',List.map_append];rfl
   generalize l[i]=x at hel hr hsucc
   have hwx:IntKind.i64.wrap (x-1)=x-1:=qAe (by omega)
   obtain ⟨y,hy,hd,_⟩:=tagD_at (i:=(x-1).toNat) (by omega)
   have hyr:=tagTab_range y (List.mem_of_getElem? hy)
   have htb:tagByte x=UInt8.ofNat y.toNat:=by unfold tagByte;rw [hy];rfl
   have hw8:IntKind.u8.wrap y=((UInt8.ofNat y.toNat).toNat:Int):=by rw [wrapu8 hyr,toNat_ofNat (by omega)];omega
   have hol:=qAl ((l.take i).map tagByte)
   rw [List.length_map,List.length_take] at hol
   refine AW_skip ?_
   refine qAu (AW_block (qAu (qAn ?_)))
   refine qAd (qAc (qAi hT rfl rfl rfl rfl (by omega) hel)) rfl ?_
   refine ww ?_
   refine qAd (qAc (arrAddr_ok (cs:=tagD) hT rfl rfl rfl rfl (by rw [hwx];omega))) rfl ?_
   rw [hwx,Nat.mul_one]
   generalize tagD.drop (x-1).toNat=cs at hd
   match cs,hd with
   | d::cs,hd =>
    simp only [List.getElem?_cons_zero,Option.some.injEq] at hd
    subst hd
    refine ww ?_
    refine qAd (qAk (i:=0) hT rfl rfl rfl rfl rfl rfl (by show ((encB ((l.take i).map tagByte)).length+1)*(1+1)≤_;omega)) rfl ?_
    refine ww ?_
    have hres:encB ((l.take (i+1)).map tagByte)=encB ((l.take i).map tagByte)++[[Dat.int .u8 (IntKind.u8.wrap y)]]:=by rw [hsucc,qCj,htb,hw8];rfl
    exact ⟨i+1,by omega,by omega,⟨AV.le.eq (by rw [hres];rfl),.refl _,.refl _,AV.le.eq (congrArg (fun z=>AV.d (.int .i64 z)) hwr),trivial⟩,⟨⟨rfl,by rw [hres]⟩,trivial⟩⟩
  ·have hge:i=l.length:=by rw [hlen] at h2;simp at h2;omega
   subst hge
   rw [List.take_length]
   refine wwe ?_
   refine qAu (AW_regionAt [] _ rfl ?_)
   refine AWw_constBytes hT rfl rfl rfl rfl ?_
   refine AWw_one ?_
   refine wws ?_
   refine AWw_constBytes hT rfl rfl rfl rfl ?_
   refine AWw_of ?_
   refine wws ?_
   refine qAd (callS0L rfl rfl hwrap rfl (by exact ⟨.refl _,AV.le.trans AV.le.dat (AV.le.eq rfl),trivial⟩) rfl rfl) rfl ?_
   refine ww ?_
   exact qAg rfl (.refl _) rfl rfl rfl rfl ⟨rfl,rfl⟩
end Tdoc
namespace Tdoc
open Go Go.Proofs
def openX (b:List UInt8):Int×List Node×Int :=
 if (parseX b false).2≠0 then (0,[],(parseX b false).2) else match (parseX b false).1 with
  | [.mk t v k]=>if (groupR t).2≠0 then (0,[],(groupR t).2) else ((groupR t).1,k,0)
  | _=>(0,[],1)
def openY (b:List UInt8) (n:Int):List Node×Int :=
 if (openX b).2.2≠0 then ([],(openX b).2.2) else if (openX b).1≠n then ([],4) else ((openX b).2.1,0)
set_option maxHeartbeats 4000000 in
set_option maxRecDepth 100000 in
theorem Open_spec (b:List UInt8) (hb:b.length≤9223372036854775807):Spec Tryz.prog 15 [.d (.sl 1 (encB b))] []
  (fun r h'=>r=.tup [.d (.int .i64 (openX b).1),.d (.sl 3 (encNs (openX b).2.1)),.d (.int .i64 (openX b).2.2)]∧h'=[]):=by
 have hps:=Parse_spec b false hb
 unfold openX
 generalize parseX b false=q at hps
 obtain ⟨l,e⟩:=q
 simp only at hps ⊢
 have hlen:=qAm l
 refine qAb hT Tryz.func15 rfl rfl rfl rfl ?_
 intro E hE
 refine ww ?_
 refine qAd (callS0 rfl rfl hps rfl rfl rfl) rfl ?_
 refine ww ?_
 refine qAa rfl (fun h1=>?_) (fun h1=>?_)
 ·have h1':e≠0:=by simpa using h1
  rw [if_pos h1']
  refine ww ?_
  exact qAg (r:=.tup [.d (.int .i64 0),.d (.sl 3 (encNs [])),.d (.int .i64 e)]) rfl (AV.le.tup ⟨.refl _,AV.le.nils,.refl _,trivial⟩) rfl rfl rfl rfl ⟨rfl,rfl⟩
 ·have h1':¬ e≠0:=by simpa using h1
  rw [if_neg h1']
  refine ww ?_
  refine qAa rfl (fun h2=>?_) (fun h2=>?_)
  ·have h2':l.length≠1:=by rw [hlen] at h2;simp at h2;omega
   refine ww ?_
   refine qAg (r:=.tup [.d (.int .i64 0),.d (.sl 3 (encNs [])),.d (.int .i64 1)]) rfl (AV.le.tup ⟨.refl _,AV.le.nils,.refl _,trivial⟩) rfl rfl rfl rfl ⟨?_,rfl⟩
   match l,h2' with
   | [],_=>rfl
   | [a],h=>exact absurd rfl h
   | .mk _ _ _::c::r,_=>rfl
  ·have h2':l.length=1:=by rw [hlen] at h2;simp at h2;omega
   match l,h2' with
   | [.mk t v k],_ =>
    have hgr:=Group_spec t
    simp only
    generalize groupR t=g at hgr
    obtain ⟨g,f⟩:=g
    simp only at hgr ⊢
    have hel:(encNs [.mk t v k])[((0:Int)).toNat]?=some [.int .i64 t,.sl 1 (encB v),.sl 3 (encNs k)]:=rfl
    refine ww ?_
    refine qAd (qAc (qAi hT rfl rfl rfl rfl (by omega) hel)) rfl ?_
    refine ww ?_
    refine qAd (callS0 rfl rfl hgr rfl rfl rfl) rfl ?_
    refine ww ?_
    refine qAa rfl (fun h3=>?_) (fun h3=>?_)
    ·have h3':f≠0:=by simpa using h3
     rw [if_pos h3']
     refine ww ?_
     exact qAg (r:=.tup [.d (.int .i64 0),.d (.sl 3 (encNs [])),.d (.int .i64 f)]) rfl (AV.le.tup ⟨.refl _,AV.le.nils,.refl _,trivial⟩) rfl rfl rfl rfl ⟨rfl,rfl⟩
    ·have h3':¬ f≠0:=by simpa using h3
     rw [if_neg h3']
     refine ww ?_
     refine qAp (qAc (qAi hT rfl rfl rfl rfl (by omega) hel)) rfl rfl ?_
     refine ww ?_
     exact qAg rfl (.refl _) rfl rfl rfl rfl ⟨rfl,rfl⟩
set_option maxHeartbeats 4000000 in
set_option maxRecDepth 100000 in
theorem open_spec (b:List UInt8) (n:Int) (hb:b.length≤9223372036854775807):Spec Tryz.prog 87 [.d (.sl 1 (encB b)),.d (.int .i64 n)] []
  (fun r h'=>r=.tup [.d (.sl 3 (encNs (openY b n).1)),.d (.int .i64 (openY b n).2)]∧h'=[]):=by
 have hps:=Open_spec b hb
 unfold openY
 generalize openX b=q at hps
 obtain ⟨g,l,e⟩:=q
 simp only at hps ⊢
 refine qAb hT Tryz.func87 rfl rfl rfl rfl ?_
 intro E hE
 refine ww ?_
 refine qAd (callS0 rfl rfl hps rfl rfl rfl) rfl ?_
 refine ww ?_
 refine qAa rfl (fun h1=>?_) (fun h1=>?_)
 ·have h1':e=0∧g≠n:=by simpa using h1
  rw [if_neg (by omega),if_pos h1'.2]
  refine ww ?_
  refine qAa rfl (fun h2=>?_) (fun h2=>?_)
  ·refine ww ?_
   exact qAg (r:=.tup [.d (.sl 3 (encNs [])),.d (.int .i64 4)]) rfl (AV.le.tup ⟨AV.le.nils,.refl _,trivial⟩) rfl rfl rfl rfl ⟨rfl,rfl⟩
  ·exact absurd h2 (by decide)
 ·have h1':¬ (e=0∧g≠n):=by simpa using h1
  refine ww ?_
  refine qAa rfl (fun h2=>?_) (fun h2=>?_)
  ·have h2':e≠0:=by simpa using h2
   rw [if_pos h2']
   refine ww ?_
   exact qAg (r:=.tup [.d (.sl 3 (encNs [])),.d (.int .i64 e)]) rfl (AV.le.tup ⟨AV.le.nils,.refl _,trivial⟩) rfl rfl rfl rfl ⟨rfl,rfl⟩
  ·have h2':¬ e≠0:=by simpa using h2
   rw [if_neg h2',if_neg (fun hh=>h1' ⟨by omega,hh⟩)]
   refine ww ?_
   exact qAg rfl (.refl _) rfl rfl rfl rfl ⟨rfl,rfl⟩
end Tdoc
namespace Tdoc
open Go Go.Proofs
def grpLoop:List UInt8→List Int→List Int×Int
 | [],out=>(out,0)
 | c::r,out=>if (groupR c.toNat).2≠0∨(groupR c.toNat).1 > 16 then ([],4) else if ascX 0 (out++[(groupR c.toNat).1])≠0 then ([],ascX 0 (out++[(groupR c.toNat).1])) else grpLoop r (out++[(groupR c.toNat).1])
def groupsX (b:List UInt8):List Int×Int :=
 if (openY b 17).2≠0 then ([],(openY b 17).2) else match (openY b 17).1 with
  | [.mk t0 v0 _,.mk t1 v1 _,.mk t2 v2 _]=>if t0≠24321∨v0≠[48,49,48,56]∨t1≠24374∨v1≠[48,52,48,48,48,48]∨t2≠92 then ([],1) else grpLoop v2 []
  | _=>([],1)
theorem qBk (v:List UInt8):byteCells (encB v):=fun e he=>by
 unfold encB at he
 obtain ⟨x,_,rfl⟩:=List.mem_map.1 he
 exact ⟨_,rfl⟩
theorem qBp (v:List UInt8):bytesOf (encB v)=v:=by
 unfold bytesOf encB
 rw [List.map_map]
 conv=>rhs;rw [← List.map_id v]
 apply List.map_congr_left
 intro x _
 show UInt8.ofNat ((x.toNat:Int)).toNat=x
 simp
theorem ascX_len:∀ (bf:Int) (l:List Int),bf≤16→ascX bf l=0→bf+l.length≤16
 | bf,[],h,_=>by simpa using h
 | bf,n::l,h,h0=>by
  rw [ascX] at h0
  split at h0
  ·simp at h0
  ·split at h0
   ·simp at h0
   ·have:=ascX_len n l (by omega) h0
    simp only [List.length_cons];omega
theorem Groups_spec (b:List UInt8) (hb:b.length≤9223372036854775807):Spec Tryz.prog 51 [.d (.sl 1 (encB b))] []
  (fun r h'=>r=.tup [.d (.sl 1 (encI (groupsX b).1)),.d (.int .i64 (groupsX b).2)]∧h'=[]):=by
 have hop:=open_spec b 17 hb
 unfold groupsX
 generalize openY b 17=q at hop
 obtain ⟨l,e⟩:=q
 simp only at hop ⊢
 have hlen:=qAm l
 refine qAb hT Tryz.func51 rfl rfl rfl rfl ?_
 intro E hE
 refine qAo ?_
 refine ww ?_
 refine qAd (callS0 rfl rfl hop rfl rfl rfl) rfl ?_
 refine ww ?_
 refine qAa rfl (fun h1=>?_) (fun h1=>?_)
 ·have h1':e≠0:=by simpa using h1
  rw [if_pos h1']
  refine ww ?_
  exact qAg (r:=.tup [.d (.sl 1 (encI [])),.d (.int .i64 e)]) rfl (AV.le.tup ⟨AV.le.nils,.refl _,trivial⟩) rfl rfl rfl rfl ⟨rfl,rfl⟩
 ·have h1':¬ e≠0:=by simpa using h1
  rw [if_neg h1']
  by_cases h3:l.length=3
  ·match l,h3 with
   | [.mk t0 v0 k0,.mk t1 v1 k1,.mk t2 v2 k2],_ =>
    have hel0:(encNs [.mk t0 v0 k0,.mk t1 v1 k1,.mk t2 v2 k2])[((0:Int)).toNat]?=some [.int .i64 t0,.sl 1 (encB v0),.sl 3 (encNs k0)]:=rfl
    have hel1:(encNs [.mk t0 v0 k0,.mk t1 v1 k1,.mk t2 v2 k2])[((1:Int)).toNat]?=some [.int .i64 t1,.sl 1 (encB v1),.sl 3 (encNs k1)]:=rfl
    have hel2:(encNs [.mk t0 v0 k0,.mk t1 v1 k1,.mk t2 v2 k2])[((2:Int)).toNat]?=some [.int .i64 t2,.sl 1 (encB v2),.sl 3 (encNs k2)]:=rfl
    refine ww ?_
    refine qBq rfl rfl rfl (fun hg=>⟨(sg (C:=True) hg).1,qAc (qAi hT rfl rfl rfl rfl (by omega) hel0)⟩) ?_
    refine ww ?_
    refine qBq rfl rfl rfl (fun hg=>⟨(sg (C:=True) hg).1,qAc (qAi hT rfl rfl rfl rfl (by omega) hel0)⟩) ?_
    refine ww ?_
    refine AWk_gstep hT rfl rfl rfl rfl (fun hg=>⟨(sg (C:=True) hg).1,qBk v0⟩) ?_
    refine ww ?_
    refine qBq rfl rfl rfl (fun hg=>⟨(sg (C:=True) hg).1,qAc (qAi hT rfl rfl rfl rfl (by omega) hel1)⟩) ?_
    refine ww ?_
    refine qBq rfl rfl rfl (fun hg=>⟨(sg (C:=True) hg).1,qAc (qAi hT rfl rfl rfl rfl (by omega) hel1)⟩) ?_
    refine ww ?_
    refine AWk_gstep hT rfl rfl rfl rfl (fun hg=>⟨(sg (C:=True) hg).1,qBk v1⟩) ?_
    refine ww ?_
    refine qBq rfl rfl rfl (fun hg=>⟨(sg (C:=True) hg).1,qAc (qAi hT rfl rfl rfl rfl (by omega) hel2)⟩) ?_
    refine ww ?_
    have hcd:(((encNs [Node.mk t0 v0 k0,.mk t1 v1 k1,.mk t2 v2 k2]).length:Int) != 3||t0 != 24321||!bytesOf (encB v0) == (ByteArray.mk #[48,49,48,56]).data.toList||t1 != 24374||!bytesOf (encB v1) == (ByteArray.mk #[48,52,48,48,48,48]).data.toList||t2 != 92)=true ↔
      (t0≠24321∨v0≠[48,49,48,56]∨t1≠24374∨v1≠[48,52,48,48,48,48]∨t2≠92):=by
     rw [qBp,qBp,hlen]
     simp [or_assoc]
    refine qAa rfl (fun h4=>?_) (fun h4=>?_)
    ·simp only
     rw [if_pos (hcd.1 h4)]
     refine ww ?_
     exact qAg (r:=.tup [.d (.sl 1 (encI [])),.d (.int .i64 1)]) rfl (AV.le.tup ⟨AV.le.nils,.refl _,trivial⟩) rfl rfl rfl rfl ⟨rfl,rfl⟩
    ·simp only
     rw [if_neg (fun hh=>by have:=hcd.2 hh;exact absurd (this.symm.trans h4) (by simp))]
     have hvl:=qAl v2
     generalize hfin:grpLoop v2 []=fin
     refine wwe ?_
     refine qAu (qAn ?_)
     refine wws ?_
     refine qBh 6 1 0 (es:=[]) (.inr ⟨rfl,rfl⟩) rfl ?_
     refine ww ?_
     refine qAd (qAc (qAi hT rfl rfl rfl rfl (by omega) hel2)) rfl ?_
     refine ww ?_
     refine qAq (ι:=Nat×List Int) (fun x=>[(6,.sl 1 (encI x.2) (.right 0)),(63,.d (.sl 1 (encB v2))),(64,.d (.int .i64 ((encB v2).length:Int))),(65,.d (.int .i64 (x.1:Int)))]) (fun x=>[.right 1 (encI x.2).length])
      (fun x=>x.1≤v2.length∧x.2.length=x.1∧ascX 0 x.2=0∧grpLoop (v2.drop x.1) x.2=fin) (fun x=>v2.length-x.1) (0,[]) ⟨by simp,by simp,rfl,by simpa using hfin⟩ ⟨.refl _,.refl _,.refl _,.refl _,trivial⟩ (HLe.refl _) ?_
     rintro ⟨i,out⟩ ⟨hi,ho,hs,hg⟩
     simp only at hi ho hs hg ⊢
     have hol:=qDk out
     have h16:=ascX_len 0 out (by omega) hs
     have hwr:IntKind.i64.wrap ((i:Int)+1)=((i+1:Nat):Int):=by rw [qAe (by omega)];simp
     refine ww ?_
     refine qAa rfl (fun h5=>?_) (fun h5=>?_)
     ·have h5':i < v2.length:=by rw [hvl] at h5;simpa using h5
      have hdrop:v2.drop i=v2[i]::v2.drop (i+1):=by simp
      have helc:(encB v2)[((i:Int)).toNat]?=some [.int .u8 (v2[i].toNat:Int)]:=by rw [Int.toNat_natCast];exact encB_at h5'
      rw [hdrop,grpLoop] at hg
      generalize v2[i]=ch at helc hg
      have hcw:IntKind.i64.wrap (ch.toNat:Int)=(ch.toNat:Int):=qAe (by have:=UInt8.toNat_lt ch;omega)
      have hgr:=Group_spec (ch.toNat:Int)
      rw [← hcw] at hgr
      rw [hcw] at hgr
      generalize groupR (ch.toNat:Int)=gq at hgr hg
      obtain ⟨gn,ge⟩:=gq
      simp only at hgr hg
      have hgr':Spec Tryz.prog 59 [.d (.int .i64 (IntKind.i64.wrap (ch.toNat:Int)))] [] (fun r h'=>r=.tup [.d (.int .i64 gn),.d (.int .i64 ge)]∧h'=[]):=by rw [hcw];exact hgr
      refine ww ?_
      refine qAd (qAc (qAi hT rfl rfl rfl rfl (by omega) helc)) rfl ?_
      refine ww ?_
      refine qAd (callS0 rfl rfl hgr' rfl rfl rfl) rfl ?_
      refine ww ?_
      refine qAa rfl (fun h6=>?_) (fun h6=>?_)
      ·have h6':ge≠0∨gn > 16:=by simpa using h6
       rw [if_pos h6'] at hg
       subst hg
       refine ww ?_
       exact qAg (r:=.tup [.d (.sl 1 (encI [])),.d (.int .i64 4)]) rfl (AV.le.tup ⟨AV.le.nils,.refl _,trivial⟩) rfl rfl rfl rfl ⟨rfl,rfl⟩
      ·have h6':¬ (ge≠0∨gn > 16):=by simpa using h6
       rw [if_neg h6'] at hg
       have hasc:=ascending_spec (out++[gn]) (by rw [List.length_append,List.length_singleton];omega)
       rw [encI_append] at hasc
       generalize hae:ascX 0 (out++[gn])=ae at hasc hg
       refine wwe ?_
       refine qAu (qAu (AW_regionAt [_,_,_] _ rfl ?_))
       refine wws ?_
       refine AWw_tempCall hT rfl rfl rfl rfl rfl (by simp) (by show ((encI out).length+1)*(8+1)≤_;omega) rfl rfl rfl hasc (fun G G' v h=>by cases h with | d r=>cases r;exact .d (.int _ _)) ?_
       refine AWw_of ?_
       refine ww ?_
       refine qAa rfl (fun h7=>?_) (fun h7=>?_)
       ·have h7':ae≠0:=by simpa using h7
        rw [if_pos h7'] at hg
        subst hg
        refine ww ?_
        exact qAg (r:=.tup [.d (.sl 1 (encI [])),.d (.int .i64 ae)]) rfl (AV.le.tup ⟨AV.le.nils,.refl _,trivial⟩) rfl rfl rfl rfl ⟨rfl,rfl⟩
       ·have h7':¬ ae≠0:=by simpa using h7
        rw [if_neg h7'] at hg
        refine ww ?_
        refine qAd (qAk (i:=0) hT rfl rfl rfl rfl rfl rfl (by show ((encI out).length+1)*(8+1)≤_;omega)) rfl ?_
        refine ww ?_
        exact ⟨(i+1,out++[gn]),⟨by simp only;omega,by simp only [List.length_append,List.length_singleton];omega,by simp only;omega,hg⟩,by simp only;omega,⟨AV.le.eq (by rw [encI_append];rfl),.refl _,.refl _,AV.le.eq (congrArg (fun z=>AV.d (.int .i64 z)) hwr),trivial⟩,⟨⟨rfl,by rw [encI_append];rfl⟩,trivial⟩⟩
     ·have hge:i=v2.length:=by rw [hvl] at h5;simp at h5;omega
      subst hge
      rw [List.drop_length,grpLoop] at hg
      subst hg
      refine ww ?_
      exact qAg (r:=.tup [.d (.sl 1 (encI out)),.d (.int .i64 0)]) rfl (AV.le.tup ⟨AV.le.dat,.refl _,trivial⟩) rfl rfl rfl rfl ⟨rfl,rfl⟩
  ·have hn3:(((encNs l).length:Int) != 3)=true:=by rw [hlen];simp;omega
   have hres:(match l with
     | [.mk t0 v0 _,.mk t1 v1 _,.mk t2 v2 _]=>if t0≠24321∨v0≠[48,49,48,56]∨t1≠24374∨v1≠[48,52,48,48,48,48]∨t2≠92 then (([]:List Int),(1:Int)) else grpLoop v2 []
     | _=>([],1))=([],1):=by
    match l,h3 with
    | [],_=>rfl
    | [.mk _ _ _],_=>rfl
    | [.mk _ _ _,.mk _ _ _],_=>rfl
    | [a,b,c],h=>exact absurd rfl h
    | .mk _ _ _::.mk _ _ _::.mk _ _ _::d::r,_=>rfl
   rw [hres]
   refine ww ?_
   refine qBq (v:=.iptr [.int .i64 0,.sl 1 [],.sl 3 []]) rfl rfl rfl (fun hg=>absurd hg (by rw [hn3];simp [gval])) ?_
   refine ww ?_
   refine qBq (v:=.iptr [.int .i64 0,.sl 1 [],.sl 3 []]) rfl rfl rfl (fun hg=>absurd hg (by rw [hn3];simp [gval])) ?_
   refine ww ?_
   refine AWk_gstep hT rfl rfl rfl rfl (fun hg=>⟨(sg (C:=True) hg).1,fun e he=>by cases he⟩) ?_
   refine ww ?_
   refine qBq (v:=.iptr [.int .i64 0,.sl 1 [],.sl 3 []]) rfl rfl rfl (fun hg=>absurd hg (by rw [hn3];simp [gval])) ?_
   refine ww ?_
   refine qBq (v:=.iptr [.int .i64 0,.sl 1 [],.sl 3 []]) rfl rfl rfl (fun hg=>absurd hg (by rw [hn3];simp [gval])) ?_
   refine ww ?_
   refine AWk_gstep hT rfl rfl rfl rfl (fun hg=>⟨(sg (C:=True) hg).1,fun e he=>by cases he⟩) ?_
   refine ww ?_
   refine qBq (v:=.iptr [.int .i64 0,.sl 1 [],.sl 3 []]) rfl rfl rfl (fun hg=>absurd hg (by rw [hn3];simp [gval])) ?_
   refine ww ?_
   refine qAa rfl (fun h4=>?_) (fun h4=>?_)
   ·refine ww ?_
    exact qAg (r:=.tup [.d (.sl 1 (encI [])),.d (.int .i64 1)]) rfl (AV.le.tup ⟨AV.le.nils,.refl _,trivial⟩) rfl rfl rfl rfl ⟨rfl,rfl⟩
   ·rw [hn3] at h4
    exact absurd h4 (by simp)
end Tdoc
namespace Tdoc
open Go Go.Proofs
def awB:List UInt8:=[96,21,95,1,4,48,49,48,56,95,54,6,48,52,48,48,48,48,92,3,97,117,110]
set_option maxRecDepth 100000 in
theorem awB_eq:commonP [1,2,14]=(awB,0):=by rfl
set_option maxRecDepth 100000 in
theorem awG_eq:groupsX awB=([1,2,14],0):=by rfl
set_option maxHeartbeats 4000000 in
set_option maxRecDepth 100000 in
theorem awake_spec:Spec Tryz.prog 9 [] [] (fun r h'=>r=.d (.bool true)∧h'=[]):=by
 have hc:=Common_spec [1,2,14] (by simp)
 rw [awB_eq] at hc
 have hg:=Groups_spec awB (by simp [awB])
 rw [awG_eq] at hg
 simp only at hc hg
 have hl:(encB awB).length=23:=by rw [qAl];rfl
 have hel:(encI [1,2,14])[((2:Int)).toNat]?=some [.int .i64 14]:=rfl
 have hel0:(encB awB)[((0:Int)).toNat]?=some [.int .u8 96]:=rfl
 generalize encB awB=bs at hc hg hl hel0
 refine qAb hT Tryz.func9 rfl rfl rfl rfl ?_
 intro E hE
 refine ww ?_
 refine qAd (callS0L rfl rfl hc rfl (by exact ⟨AV.le.trans AV.le.dat (AV.le.eq rfl),trivial⟩) rfl rfl) rfl ?_
 refine ww ?_
 refine qAd (callS0 rfl rfl hg rfl rfl rfl) rfl ?_
 refine ww ?_
 refine qBq rfl rfl rfl (fun hg=>⟨(sg (C:=True) hg).1,qAc (qAi hT rfl rfl rfl rfl (by omega) hel)⟩) ?_
 refine ww ?_
 refine qBq rfl rfl rfl (fun hg=>⟨(sg (C:=True) hg).1,qAc (qAi hT rfl rfl rfl rfl (by omega) hel0)⟩) ?_
 refine ww ?_
 exact qAg (r:=.d (.bool true)) rfl (AV.le.eq (by rw [hl];rfl)) rfl rfl rfl rfl ⟨rfl,rfl⟩
end Tdoc
namespace Tdoc
open Go Go.Proofs
end Tdoc
namespace Tdoc
open Go Go.Proofs
set_option maxHeartbeats 4000000 in
set_option maxRecDepth 100000 in
theorem SameSelf_spec (a:List UInt8) (ha:a.length≤1000000000):Spec Tryz.prog 34 [.d (.sl 1 (encB a)),.d (.sl 1 (encB a))] [] (fun r h'=>r=.d (.bool true)∧h'=[]):=by
 have hal:=qAl a
 refine qAb hT Tryz.func34 rfl rfl rfl rfl ?_
 intro E hE
 refine ww ?_
 refine qAa rfl (fun h1=>?_) (fun h1=>?_)
 ·exact absurd h1 (by simp)
 ·refine ww ?_
  refine qAq (ι:=Nat) (fun i=>[(0,.d (.sl 1 (encB a))),(1,.d (.sl 1 (encB a))),(5,.d (.int .i64 (i:Int)))]) (fun _=>[]) (fun i=>i≤a.length) (fun i=>a.length-i) 0 (by omega) ⟨.refl _,.refl _,.refl _,trivial⟩ (HLe.refl _) ?_
  intro i hi
  have hwr:IntKind.i64.wrap ((i:Int)+1)=((i+1:Nat):Int):=by rw [qAe (by omega)];simp
  refine ww ?_
  refine qAa rfl (fun h2=>?_) (fun h2=>?_)
  ·have h2':i < a.length:=by rw [hal] at h2;simpa using h2
   have hel:(encB a)[((i:Int)).toNat]?=some [.int .u8 (byteAt a i:Int)]:=encB_byte h2'
   refine ww ?_
   refine qAp (qAc (qAi hT rfl rfl rfl rfl (by omega) hel)) rfl rfl ?_
   refine ww ?_
   refine qAp (qAc (qAi hT rfl rfl rfl rfl (by omega) hel)) rfl rfl ?_
   refine ww ?_
   refine qAa rfl (fun h3=>?_) (fun h3=>?_)
   ·exact absurd h3 (by simp)
   ·refine ww ?_
    exact ⟨i+1,by omega,by omega,⟨.refl _,.refl _,AV.le.eq (congrArg (fun z=>AV.d (.int .i64 z)) hwr),trivial⟩,HLe.refl _⟩
  ·refine ww ?_
   exact qAg rfl (.refl _) rfl rfl rfl rfl ⟨rfl,rfl⟩
end Tdoc
namespace Tdoc
open Go Go.Proofs
def pG:Nat:=2147483579
def powX:Nat→Nat→Nat→Nat→Nat
 | 0,x,k,out=>out
 | m+1,x,k,out=>if k=0 then out else powX m (x*x % pG) (k / 2) (if k % 2=1 then out*x % pG else out)
theorem mulP_lt {a b:Nat} (ha:a < pG) (hb:b < pG):a*b≤4611686018427387904:=by
 have:=Nat.mul_le_mul (Nat.le_of_lt ha) (Nat.le_of_lt hb)
 exact Nat.le_trans this (by decide)
set_option maxHeartbeats 4000000 in
set_option maxRecDepth 100000 in
theorem Pow_spec (x k m:Nat) (hx:x < pG) (hk:k≤9223372036854775807) (hm:k < 2 ^ m) :
  Spec Tryz.prog 97 [.d (.int .i64 (x:Int)),.d (.int .i64 (k:Int))] [] (fun r h'=>r=.d (.int .i64 (powX m x k 1:Int))∧h'=[]):=by
 refine qAb hT Tryz.func97 rfl rfl rfl rfl ?_
 intro E hE
 generalize hfin:powX m x k 1=fin
 refine ww ?_
 refine qAq (ι:=Nat×Nat×Nat×Nat) (fun y=>[(0,.d (.int .i64 (y.1:Int))),(1,.d (.int .i64 (y.2.1:Int))),(5,.d (.int .i64 (y.2.2.1:Int)))]) (fun _=>[])
  (fun y=>y.1 < pG∧y.2.1≤9223372036854775807∧y.2.2.1 < pG∧y.2.1 < 2 ^ y.2.2.2∧powX y.2.2.2 y.1 y.2.1 y.2.2.1=fin) (fun y=>y.2.1) (x,k,1,m) ⟨hx,hk,show 1 < pG by decide,hm,hfin⟩ ⟨.refl _,.refl _,.refl _,trivial⟩ (HLe.refl _) ?_
 rintro ⟨x,k,out,m⟩ ⟨hx,hk,ho,hm,hg⟩
 simp only at hx hk ho hm hg ⊢
 refine ww ?_
 refine qAa rfl (fun h1=>?_) (fun h1=>?_)
 ·have h1':0 < k:=by simpa using h1
  obtain ⟨m,rfl⟩:∃ m',m=m'+1:=⟨m-1,by cases m with | zero=>simp at hm;omega | succ m=>simp⟩
  rw [powX,if_neg (by omega)] at hg
  refine ww ?_
  have hxx:=mulP_lt hx hx
  have hox:=mulP_lt ho hx
  have hm1:IntKind.i64.wrap ((x:Int)*(x:Int))=((x*x:Nat):Int):=by rw [← Int.natCast_mul];exact qAe (by omega)
  have hm2:IntKind.i64.wrap ((out:Int)*(x:Int))=((out*x:Nat):Int):=by rw [← Int.natCast_mul];exact qAe (by omega)
  have ht1:Int.tmod (IntKind.i64.wrap ((x:Int)*(x:Int))) 2147483579=((x*x % pG:Nat):Int):=by rw [hm1];rfl
  have ht2:Int.tmod (IntKind.i64.wrap ((out:Int)*(x:Int))) 2147483579=((out*x % pG:Nat):Int):=by rw [hm2];rfl
  have htk:Int.tmod (k:Int) 2=((k % 2:Nat):Int):=rfl
  have hdk:Int.tdiv (k:Int) 2=((k / 2:Nat):Int):=rfl
  have hwd:IntKind.i64.wrap (Int.tdiv (k:Int) 2)=((k / 2:Nat):Int):=by rw [hdk];exact qAe (by omega)
  have hl1:x*x % pG < pG:=Nat.mod_lt _ (by decide)
  have hl2:out*x % pG < pG:=Nat.mod_lt _ (by decide)
  have hk2:k / 2 < 2 ^ m:=by rw [Nat.pow_succ] at hm;omega
  refine qAa rfl (fun h2=>?_) (fun h2=>?_)
  ·have h2':k % 2=1:=by rw [htk] at h2;simp at h2;omega
   rw [if_pos h2'] at hg
   refine ww ?_
   exact ⟨(x*x % pG,k / 2,out*x % pG,m),⟨hl1,by show k / 2≤_;omega,hl2,hk2,hg⟩,by show k / 2 < k;omega,⟨AV.le.eq (congrArg (fun z=>AV.d (.int .i64 z)) ht1),AV.le.eq (congrArg (fun z=>AV.d (.int .i64 z)) hwd),AV.le.eq (congrArg (fun z=>AV.d (.int .i64 z)) ht2),trivial⟩,HLe.refl _⟩
  ·have h2':¬ k % 2=1:=by rw [htk] at h2;simp at h2;omega
   rw [if_neg h2'] at hg
   refine ww ?_
   exact ⟨(x*x % pG,k / 2,out,m),⟨hl1,by show k / 2≤_;omega,ho,hk2,hg⟩,by show k / 2 < k;omega,⟨AV.le.eq (congrArg (fun z=>AV.d (.int .i64 z)) ht1),AV.le.eq (congrArg (fun z=>AV.d (.int .i64 z)) hwd),.refl _,trivial⟩,HLe.refl _⟩
 ·have h1':k=0:=by simp at h1;omega
  subst h1'
  have hg':out=fin:=by rw [← hg];cases m <;> simp [powX]
  subst hg'
  refine ww ?_
  exact qAg rfl (.refl _) rfl rfl rfl rfl ⟨rfl,rfl⟩
end Tdoc
namespace Tdoc
open Go Go.Proofs
set_option maxHeartbeats 4000000 in
set_option maxRecDepth 100000 in
theorem Len64_spec:Spec Tryz.prog 276 [.d (.int .u64 1073741789)] [] (fun r h'=>r=.d (.int .i64 30)∧h'=[]):=by
 refine qAb hT Tryz.func276 rfl rfl rfl rfl ?_
 intro E hE
 refine ww ?_
 refine qAa rfl (fun h1=>?_) (fun h1=>?_)
 ·exact absurd h1 (by decide)
 ·refine ww ?_
  refine qAa rfl (fun h2=>?_) (fun h2=>?_)
  ·refine ww ?_
   refine qAa rfl (fun h3=>?_) (fun h3=>?_)
   ·refine ww ?_
    refine qCa hT rfl rfl (by decide) ?_
    refine ww ?_
    exact qAg (r:=.d (.int .i64 30)) rfl (AV.le.eq (by rfl)) rfl rfl rfl rfl ⟨rfl,rfl⟩
   ·exact absurd h3 (by decide)
  ·exact absurd h2 (by decide)
set_option maxHeartbeats 4000000 in
set_option maxRecDepth 100000 in
theorem Len_spec:Spec Tryz.prog 263 [.d (.int .u64 1073741789)] [] (fun r h'=>r=.d (.int .i64 30)∧h'=[]):=by
 refine qAb hT Tryz.func263 rfl rfl rfl rfl ?_
 intro E hE
 refine ww ?_
 refine qAa rfl (fun h1=>?_) (fun h1=>?_)
 ·exact absurd h1 (by decide)
 ·refine ww ?_
  refine qAd (callS0 rfl rfl Len64_spec rfl rfl rfl) rfl ?_
  refine ww ?_
  exact qAg rfl (.refl _) rfl rfl rfl rfl ⟨rfl,rfl⟩
end Tdoc
namespace Tdoc
open Go Go.Proofs
theorem emod_tmod {x n:Int} (h:1≤n):(if x.tmod n < 0 then x.tmod n+n else x.tmod n)=x % n:=by
 have hb1:=Int.tmod_lt_of_pos x (b:=n) (by omega)
 have hb2:(-x).tmod n < n:=Int.tmod_lt_of_pos (-x) (b:=n) (by omega)
 rw [Int.neg_tmod] at hb2
 have h2:=Int.mul_tdiv_add_tmod x n
 have h3:x % n=(x.tmod n+n*x.tdiv n) % n:=by rw [Int.add_comm,h2]
 rw [h3,Int.add_mul_emod_self_left]
 split
 ·rw [← Int.add_emod_right,Int.emod_eq_of_lt (by omega) (by omega)]
 ·rw [Int.emod_eq_of_lt (by omega) (by omega)]
theorem Mod_spec (x n:Int) (h1:1≤n) (hn:n≤4611686018427387904):Spec Tryz.prog 55 [.d (.int .i64 x),.d (.int .i64 n)] [] (fun r h'=>r=.d (.int .i64 (x % n))∧h'=[]):=by
 have hb1:=Int.tmod_lt_of_pos x (b:=n) (by omega)
 have hb2:(-x).tmod n < n:=Int.tmod_lt_of_pos (-x) (b:=n) (by omega)
 rw [Int.neg_tmod] at hb2
 have he:=emod_tmod (x:=x) h1
 have hne:n≠0:=by omega
 refine qAb hT Tryz.func55 rfl rfl rfl rfl ?_;intro E hE
 refine ww ?_
 refine qAa rfl (fun h2=>?_) (fun h2=>?_)
 ·have h2':x.tmod n < 0:=by simpa using h2
  rw [if_pos h2'] at he
  refine ww ?_
  exact wwr
 ·have h2':¬ x.tmod n < 0:=by simpa using h2
  rw [if_neg h2'] at he
  refine ww ?_
  exact wwr
theorem Light_spec (l:List Int):Spec Tryz.prog 8 [.d (.sl 1 (encI l))] [] (fun r h'=>r=.d (.bool (decide (l.length≤400)))∧h'=[]):=by
 have hl:=qDk l
 generalize encI l=es at hl
 refine qAb hT Tryz.func8 rfl rfl rfl rfl ?_;intro E hE
 refine ww ?_
 exact ret_q ⟨rfl,rfl⟩ rfl (.bool (by rw [hl];exact decide_eq_decide.2 (by omega))) rfl rfl rfl rfl
def diceR (l:List Int) (a:Nat):List AV:=[.d (.sl 1 (encI l)),.d (.int .i64 (a:Int))]
theorem Roll_spec (l:List Int) (hl:l.length≤1000000):Spec Tryz.prog 10 [.d (.sl 1 (encI l))] [.room] (fun r h'=>r=.ptr 0 0∧h'=[.row (diceR l 0)]):=by
 unfold diceR
 generalize encI l=es
 refine qAb hT Tryz.func10 rfl rfl rfl rfl ?_;intro E hE
 refine qAu (qAn (qCa hT rfl rfl trivial (AWk_nil ?_)))
 refine qAu (qAn (qCa hT rfl rfl trivial (qCa hT rfl rfl trivial ?_)))
 refine qAd (qCg (i0:=0) rfl rfl rfl) rfl ?_
 refine ww ?_
 exact wwr
def NextP (l:List Int) (n:Int) (x:Int×Nat):Prop:=0≤x.1∧x.1 < n∧x.2≤l.length
theorem Next_spec (l:List Int) (hl:l.length≤1000000) (a:Nat) (ha:a≤l.length) (n:Int) (h1:1≤n) (hn:n≤4611686018427387904) :
  Spec Tryz.prog 12 [.ptr 0 0,.d (.int .i64 n)] [.row (diceR l a)] (fun r h'=>∃ x,NextP l n x∧r=.d (.int .i64 x.1)∧h'=[.row (diceR l x.2)]):=by
 have hll:=qDk l
 unfold diceR
 refine qAb hT Tryz.func12 rfl rfl rfl rfl ?_;intro E hE
 refine ww ?_
 refine qAa rfl (fun h2=>?_) (fun h2=>?_)
 ·have h2':¬ a < l.length:=by rw [hll] at h2;simp at h2;omega
  refine ww ?_
  exact ret_q ⟨(0,a),⟨by simp,by simp only;omega,ha⟩,rfl,rfl⟩ rfl (.refl _) rfl rfl rfl rfl
 ·have h2':a < l.length:=by rw [hll] at h2;simp at h2;omega
  have hw1:IntKind.i64.wrap ((a:Int)+1)=((a+1:Nat):Int):=by rw [qAe (by omega)];simp
  have hw2:IntKind.i64.wrap (((a+1:Nat):Int)-1)=(a:Int):=by rw [qAe (by omega)];omega
  have h0:0≤IntKind.i64.wrap (IntKind.i64.wrap ((a:Int)+1)-1):=by rw [hw1,hw2];omega
  have hel:(encI l)[(IntKind.i64.wrap (IntKind.i64.wrap ((a:Int)+1)-1)).toNat]?=some [.int .i64 l[a]]:=by rw [hw1,hw2];simp [encI,h2']
  have hm:=Mod_spec l[a] n h1 hn
  generalize l[a]=x at hel hm
  refine ww ?_
  refine qAp (qAc (qAi hT rfl rfl rfl rfl h0 hel)) rfl rfl ?_
  refine ww ?_
  refine wwc hm ?_
  refine ww ?_
  refine ret_q (r:=.d (.int .i64 (x % n))) ⟨(x % n,a+1),⟨Int.emod_nonneg _ (by omega),Int.emod_lt_of_pos _ (by omega),h2'⟩,rfl,rfl⟩ rfl (.refl _) ?_ rfl rfl rfl
  rw [hw1];rfl
theorem One_spec (l:List Int) (hl:l.length≤1000000) (a:Nat) (ha:a≤l.length) (n:Int) (h1:1≤n) (hn:n≤4611686018427387904) :
  Spec Tryz.prog 21 [.ptr 0 0,.d (.int .i64 n)] [.row (diceR l a)] (fun r h'=>∃ x:Bool×Nat,x.2≤l.length∧r=.d (.bool x.1)∧h'=[.row (diceR l x.2)]):=by
 have hN:=Next_spec l hl a ha n h1 hn
 refine qAb hT Tryz.func21 rfl rfl rfl rfl ?_;intro E hE
 refine ww ?_
 refine qAz (callX rfl rfl (hN) [0] (by decide) rfl rfl rfl rfl (fun _=>rfl) (fun _=>rfl) (fun _=>rfl)) rfl ?_
 rintro ⟨x,b⟩ ⟨q1,q2,q3⟩
 refine ww ?_
 exact ret_q ⟨(_,b),q3,rfl,rfl⟩ rfl (.refl _) rfl rfl rfl rfl
end Tdoc
namespace Tdoc
open Go Go.Proofs
def BytesP (l:List Int) (n:Nat) (x:List UInt8×Nat):Prop:=x.1.length≤n∧x.2≤l.length
theorem u8_of {x:Int} (h:0≤x∧x < 256):IntKind.u8.wrap x=((UInt8.ofNat x.toNat).toNat:Int):=by rw [wrapu8 (by omega),toNat_ofNat (by omega)];omega
theorem zeroRow (n:Nat):(List.replicate n [AV.d (.int .u8 0)]).flatten=byteAV (List.replicate n 0):=by
 induction n with
 | zero=>rfl
 | succ n ih=>rw [List.replicate_succ,List.flatten_cons,ih];rfl
end Tdoc
namespace Tdoc
open Go Go.Proofs
def qG:Nat:=1073741789
theorem qG_div:∀ {i:Nat},i < 30→qG / 2 ^ i≠0:=by
 have h:∀ i,i∈List.range 30→qG / 2 ^ i≠0:=by decide
 exact fun {i} hi=>h i (List.mem_range.2 hi)
theorem power_spec (x:Nat) (hx:x < pG):Spec Tryz.prog 231 [.d (.int .i64 (x:Int)),.d (.int .i64 1073741789)] [] (fun r h'=>r=.d (.int .i64 (powX 30 x qG 1:Int))∧h'=[]):=by
 have hlen:Spec Tryz.prog 263 [.d (.int .u64 (IntKind.u64.wrap 1073741789))] [] (fun r h'=>r=.d (.int .i64 30)∧h'=[]):=by
  rw [show IntKind.u64.wrap 1073741789=1073741789 by decide];exact Len_spec
 generalize hfin:powX 30 x qG 1=fin
 refine qAb hT Tryz.func231 rfl rfl rfl rfl ?_;intro E hE
 refine ww ?_
 refine wwc hlen ?_
 refine ww ?_
 refine qAq (ι:=Nat×Nat×Nat) (fun y=>[(0,.d (.int .i64 (y.2.1:Int))),(1,.d (.int .i64 1073741789)),(5,.d (.int .i64 (y.2.2:Int))),(9,.d (.int .i64 30)),(10,.d (.int .i64 (y.1:Int)))]) (fun _=>[])
  (fun y=>y.1≤30∧y.2.1 < pG∧y.2.2 < pG∧powX (30-y.1) y.2.1 (qG / 2 ^ y.1) y.2.2=fin) (fun y=>30-y.1) (0,x,1) ⟨by omega,hx,show 1 < pG by decide,by simpa using hfin⟩ ⟨.refl _,.refl _,.refl _,.refl _,.refl _,trivial⟩ (HLe.refl _) ?_
 rintro ⟨i,x,out⟩ ⟨hi,hx,ho,hg⟩
 simp only at hi hx ho hg ⊢
 refine ww ?_
 refine qAa rfl (fun h1=>?_) (fun h1=>?_)
 ·have h1':i < 30:=by simp at h1;omega
  have hq:=qG_div h1'
  have hq2:qG / 2 ^ i < 9223372036854775808:=Nat.lt_of_le_of_lt (Nat.div_le_self _ _) (by decide)
  obtain ⟨m,hm⟩:∃ m,30-i=m+1:=⟨30-i-1,by omega⟩
  rw [hm,powX,if_neg hq,Nat.div_div_eq_div_mul,← Nat.pow_succ] at hg
  have hm':m=30-(i+1):=by omega
  subst hm'
  have hsh:Int.fdiv 1073741789 (2 ^ (min ((i:Int)).toNat IntKind.i64.bits))=((qG / 2 ^ i:Nat):Int):=by
   rw [show min ((i:Int)).toNat IntKind.i64.bits=i by simp [IntKind.bits];omega]
   exact shr_nat qG i
  have hand:IntKind.i64.wrap ((BitVec.ofInt IntKind.i64.bits (Int.fdiv 1073741789 (2 ^ (min ((i:Int)).toNat IntKind.i64.bits))) &&& BitVec.ofInt IntKind.i64.bits 1).toNat:Int)=((qG / 2 ^ i % 2:Nat):Int):=by
   rw [hsh]
   have:=and_nat (a:=qG / 2 ^ i) (b:=1) hq2 (by omega)
   rw [Nat.and_one_is_mod] at this
   exact this
  have hxx:=mulP_lt hx hx
  have hox:=mulP_lt ho hx
  have hm1:IntKind.i64.wrap ((x:Int)*(x:Int))=((x*x:Nat):Int):=by rw [← Int.natCast_mul];exact qAe (by omega)
  have hm2:IntKind.i64.wrap ((out:Int)*(x:Int))=((out*x:Nat):Int):=by rw [← Int.natCast_mul];exact qAe (by omega)
  have ht1:Int.tmod (IntKind.i64.wrap ((x:Int)*(x:Int))) 2147483579=((x*x % pG:Nat):Int):=by rw [hm1];rfl
  have ht2:Int.tmod (IntKind.i64.wrap ((out:Int)*(x:Int))) 2147483579=((out*x % pG:Nat):Int):=by rw [hm2];rfl
  have hwi:IntKind.i64.wrap ((i:Int)+1)=((i+1:Nat):Int):=by rw [qAe (by omega)];omega
  have hl1:x*x % pG < pG:=Nat.mod_lt _ (by decide)
  have hl2:out*x % pG < pG:=Nat.mod_lt _ (by decide)
  generalize qG / 2 ^ i % 2=bt at hand hg
  refine ww ?_
  refine qAa rfl (fun h2=>?_) (fun h2=>?_)
  ·have h2':bt=1:=by rw [hand] at h2;simp at h2;omega
   rw [if_pos h2'] at hg
   refine ww ?_
   exact ⟨(i+1,x*x % pG,out*x % pG),⟨h1',hl1,hl2,hg⟩,by simp only;omega,⟨.int ht1,.refl _,.int ht2,.refl _,.int hwi,trivial⟩,HLe.refl _⟩
  ·have h2':¬ bt=1:=by rw [hand] at h2;simp at h2;omega
   rw [if_neg h2'] at hg
   refine ww ?_
   exact ⟨(i+1,x*x % pG,out),⟨h1',hl1,ho,hg⟩,by simp only;omega,⟨.int ht1,.refl _,.refl _,.refl _,.int hwi,trivial⟩,HLe.refl _⟩
 ·have h1':i=30:=by simp at h1;omega
  subst h1'
  have hg':out=fin:=by rw [← hg];rfl
  subst hg'
  refine ww ?_
  exact wwr
def residG (x:Int):Bool:=decide (0 < x∧x < 2147483579)
def elemG (x:Int):Bool:=residG x&&decide (x≠1)&&decide (powX 30 x.toNat qG 1=1)
theorem residue_spec (x:Int):Spec Tryz.prog 230 [.d (.int .i64 x)] [] (fun r h'=>r=.d (.bool (residG x))∧h'=[]):=by
 refine qAb hT Tryz.func230 rfl rfl rfl rfl ?_;intro E hE
 refine ww ?_
 exact ret_q ⟨rfl,rfl⟩ rfl (.bool (by unfold residG;rw [Bool.decide_and])) rfl rfl rfl rfl
theorem ne_dec (x y:Int):(x != y)=decide (x≠y):=by rw [Bool.eq_iff_iff];simp
theorem eq_dec1 (n:Nat):((n:Int) == 1)=decide (n=1):=by rw [Bool.eq_iff_iff];simp;omega
theorem Element_spec (x:Int):Spec Tryz.prog 163 [.d (.int .i64 x)] [] (fun r h'=>r=.d (.bool (elemG x))∧h'=[]):=by
 have hres:=residue_spec x
 have hp:residG x=true→Spec Tryz.prog 231 [.d (.int .i64 x),.d (.int .i64 1073741789)] [] (fun r h'=>r=.d (.int .i64 (powX 30 x.toNat qG 1:Int))∧h'=[]):=fun hr=>by
  have hr:0 < x∧x < 2147483579:=of_decide_eq_true hr
  have hp:=power_spec x.toNat (by unfold pG;omega)
  rw [Int.toNat_of_nonneg (by omega)] at hp
  exact hp
 unfold elemG
 generalize powX 30 x.toNat qG 1=pw at hp
 generalize residG x=c at hp hres
 refine qAb hT Tryz.func163 rfl rfl rfl rfl ?_;intro E hE
 refine ww ?_
 refine wwc hres ?_
 refine ww ?_
 refine qBq (v:=.d (.int .i64 (pw:Int))) rfl rfl rfl (fun hg=>⟨by first | exact True.intro | exact ⟨hg,True.intro⟩ | exact ⟨hg,hg,True.intro⟩,callS0 rfl rfl (hp (by simp [gval] at hg;exact hg.1)) rfl rfl rfl⟩) ?_
 refine ww ?_
 exact ret_q ⟨rfl,rfl⟩ rfl (.bool (by rw [ne_dec,eq_dec1])) rfl rfl rfl rfl
theorem elemG_range {x:Int} (h:elemG x=true):0 < x∧x < 2147483579:=by
 unfold elemG residG at h
 simp only [Bool.and_eq_true] at h
 exact of_decide_eq_true h.1.1
def octB:Nat→Nat→List UInt8
 | 0,_=>[]
 | m+1,n=>octB m (n / 256)++[UInt8.ofNat (n % 256)]
theorem qBv:∀ (m n:Nat),(octB m n).length=m
 | 0,_=>rfl
 | m+1,n=>by simp [octB,qBv m]
theorem octB_succ:∀ (m n:Nat),octB (m+1) n=UInt8.ofNat (n / 256 ^ m % 256)::octB m n
 | 0,n=>by simp [octB]
 | m+1,n=>by
  have ih:=octB_succ m (n / 256)
  rw [octB,ih,octB,Nat.div_div_eq_div_mul,Nat.pow_succ,Nat.mul_comm (256 ^ m)]
  rfl
theorem set_repl {α:Type} (z b:α) (l:List α):∀ (k:Nat),(List.replicate (k+1) z++l).set k b=List.replicate k z++b::l
 | 0=>rfl
 | k+1=>by
  have:=set_repl z b l k
  rw [List.replicate_succ,List.cons_append,List.set_cons_succ,this,← List.cons_append,← List.replicate_succ]
theorem Octets_spec (n m:Nat) (hm:m≤7) (hn:n < 256 ^ m):Spec Tryz.prog 164 [.d (.int .i64 (n:Int)),.d (.int .i64 (m:Int))] [] (fun r h'=>r=.tup [.d (.sl 1 (encB (octB m n))),.d (.int .i64 0)]∧h'=[]):=by
 have hn8:n < 2 ^ (8*m):=by rw [show (256:Nat)=2 ^ 8 by rfl,← Nat.pow_mul] at hn;exact hn
 have hn2:n < 72057594037927936:=Nat.lt_of_lt_of_le hn (Nat.le_trans (Nat.pow_le_pow_right (by omega) hm) (by decide))
 have hw8:IntKind.i64.wrap (8*(m:Int))=((8*m:Nat):Int):=by rw [qAe (by omega)];omega
 have hz:Int.fdiv (n:Int) (2 ^ (min (IntKind.i64.wrap (8*(m:Int))).toNat IntKind.i64.bits))=0:=by
  rw [hw8,show min (((8*m:Nat):Int)).toNat IntKind.i64.bits=8*m by simp [IntKind.bits];omega,shr_nat,Nat.div_eq_of_lt hn8];rfl
 refine qAb hT Tryz.func164 rfl rfl rfl rfl ?_;intro E hE
 refine ww ?_
 refine qAa rfl (fun h1=>?_) (fun h1=>?_)
 ·exact absurd h1 (by simp;omega)
 refine ww ?_
 refine qAa rfl (fun h2=>?_) (fun h2=>?_)
 ·refine absurd h2 ?_
  rw [hz];simp
 refine ww ?_
 refine qAd (makeRow_ok (n:=m) hT rfl rfl rfl rfl (by show 1*m≤_;omega) (by omega)) rfl ?_
 rw [zeroRow]
 refine ww ?_
 refine qAq (ι:=Nat) (fun i=>[(0,.d (.int .i64 (n:Int))),(1,.d (.int .i64 (m:Int))),(6,.row 0 0 m m),(25,.d (.int .i64 (m:Int))),(26,.d (.int .i64 (i:Int)))]) (fun i=>[.row (byteAV (List.replicate (m-i) 0++octB i n))])
  (fun i=>i≤m) (fun i=>m-i) 0 (by omega) ⟨.refl _,.refl _,.refl _,.refl _,.refl _,trivial⟩ ⟨by simp [octB];exact ObLe.refl _,trivial⟩ ?_
 intro i hi
 refine ww ?_
 refine qAa rfl (fun h3=>?_) (fun h3=>?_)
 ·have h3':i < m:=by simp at h3;omega
  have hwi:IntKind.i64.wrap ((i:Int)+1)=((i+1:Nat):Int):=by rw [qAe (by omega)];omega
  have hix:IntKind.i64.wrap (IntKind.i64.wrap ((m:Int)-1)-(i:Int))=((m-1-i:Nat):Int):=by rw [qAe (n:=(m:Int)-1) (by omega),qAe (by omega)];omega
  have hwb:IntKind.i64.wrap (8*(i:Int))=((8*i:Nat):Int):=by rw [qAe (by omega)];omega
  have hby:IntKind.u8.wrap (Int.fdiv (n:Int) (2 ^ (min (IntKind.i64.wrap (8*(i:Int))).toNat IntKind.i64.bits)))=((UInt8.ofNat (n / 256 ^ i % 256)).toNat:Int):=by
   rw [hwb,show min (((8*i:Nat):Int)).toNat IntKind.i64.bits=8*i by simp [IntKind.bits];omega,shr_nat,wrapu8_mod,toNat_ofNat (Nat.mod_lt _ (by omega)),Nat.pow_mul];simp
  have hrow:(byteAV (List.replicate (m-i) 0++octB i n)).set (m-1-i) (AV.d (.int .u8 (IntKind.u8.wrap (Int.fdiv (n:Int) (2 ^ (min (IntKind.i64.wrap (8*(i:Int))).toNat IntKind.i64.bits))))))=byteAV (List.replicate (m-(i+1)) 0++octB (i+1) n):=by
   rw [hby,octB_succ,show m-i=(m-(i+1))+1 by omega,show m-1-i=m-(i+1) by omega]
   have:=set_repl (0:UInt8) (UInt8.ofNat (n / 256 ^ i % 256)) (octB i n) (m-(i+1))
   rw [← this]
   simp [byteAV,List.map_set]
  have hlen:(byteAV (List.replicate (m-i) 0++octB i n)).length=m:=by rw [qBy];simp [qBv];omega
  generalize byteAV (List.replicate (m-i) 0++octB i n)=row at hrow hlen
  refine ww ?_
  refine qAd (qAc (rowAddr_ok (sz:=1) hT rfl rfl rfl rfl (by rw [hix];omega))) rfl ?_
  refine AWk_op0 (store1_ok hT rfl rfl rfl rfl rfl rfl (by rw [hix,hlen];simp;omega)) rfl ?_
  refine ww ?_
  refine ⟨i+1,by omega,by omega,⟨.refl _,.refl _,.refl _,.refl _,.int hwi,trivial⟩,⟨?_,trivial⟩⟩
  rw [← hrow]
  exact ObLe.row (by rw [hix,show 0+(((m-1-i:Nat):Int)).toNat*1=m-1-i by simp];rfl)
 ·have h3':i=m:=by simp at h3;omega
  subst h3'
  rw [Nat.sub_self,List.replicate_zero,List.nil_append]
  refine wwe ?_
  refine AW_freeze 6 0 1 (encB (octB i n)) rfl rfl (by rw [qAl,qBv]) (Nat.le_refl _) (RowDat_bytes _) ?_
  refine ww ?_
  exact wwr
theorem GEncode_spec (x:Int):Spec Tryz.prog 96 [.d (.int .i64 x)] [] (fun r h'=>r=.tup [.d (.sl 1 (encB (if elemG x=true then octB 4 x.toNat else []))),.d (.int .i64 (if elemG x=true then 0 else 10))]∧h'=[]):=by
 have hel:=Element_spec x
 have hoc:elemG x=true→Spec Tryz.prog 164 [.d (.int .i64 x),.d (.int .i64 4)] [] (fun r h'=>r=.tup [.d (.sl 1 (encB (octB 4 x.toNat))),.d (.int .i64 0)]∧h'=[]):=fun h=>by
  have hr:=elemG_range h
  have:=Octets_spec x.toNat 4 (by omega) (by omega)
  rw [Int.toNat_of_nonneg (by omega)] at this
  exact this
 generalize octB 4 x.toNat=bs at hoc
 generalize elemG x=c at hel hoc
 refine qAb hT Tryz.func96 rfl rfl rfl rfl ?_;intro E hE
 refine ww ?_
 refine wwc hel ?_
 refine ww ?_
 refine qAa rfl (fun h1=>?_) (fun h1=>?_)
 ·obtain rfl:c=false:=by simpa using h1
  refine ww ?_
  exact wwr
 ·obtain rfl:c=true:=by simpa using h1
  have hoc:=hoc rfl
  refine ww ?_
  refine wwc hoc ?_
  refine ww ?_
  exact wwr
def nearG (n:Int):Int:=1+n % 1073741788
theorem Near_spec (n:Int):Spec Tryz.prog 98 [.d (.int .i64 n)] [] (fun r h'=>r=.d (.int .i64 (nearG n))∧h'=[]):=by
 have he:=emod_tmod (x:=n) (n:=1073741788) (by omega)
 have hr1:=Int.emod_nonneg n (b:=1073741788) (by omega)
 have hr2:=Int.emod_lt_of_pos n (b:=1073741788) (by omega)
 unfold nearG
 refine qAb hT Tryz.func98 rfl rfl rfl rfl ?_;intro E hE
 refine ww ?_
 refine qAa rfl (fun h2=>?_) (fun h2=>?_)
 ·have h2':n.tmod 1073741788 < 0:=by simpa using h2
  rw [if_pos h2'] at he
  have hw:IntKind.i64.wrap (n.tmod 1073741788+1073741788)=n % 1073741788:=by rw [he];exact qAe (by omega)
  refine ww ?_
  exact ret_q ⟨rfl,rfl⟩ rfl (.int (by rw [hw];exact qAe (by omega))) rfl rfl rfl rfl
 ·have h2':¬ n.tmod 1073741788 < 0:=by simpa using h2
  rw [if_neg h2'] at he
  refine ww ?_
  exact ret_q ⟨rfl,rfl⟩ rfl (.int (by rw [he];exact qAe (by omega))) rfl rfl rfl rfl
theorem powX_lt:∀ (m x k out:Nat),out < pG→powX m x k out < pG
 | 0,x,k,out,h=>h
 | m+1,x,k,out,h=>by
  rw [powX]
  split
  ·exact h
  ·refine powX_lt m _ _ _ ?_
   split
   ·exact Nat.mod_lt _ (by decide)
   ·exact h
def pointG (n:Int):Int:=(powX 31 4 (nearG n).toNat 1:Nat)
theorem pointG_range (n:Int):0≤pointG n∧pointG n < 2147483579:=by
 have:=powX_lt 31 4 (nearG n).toNat 1 (by decide)
 unfold pointG
 unfold pG at this
 omega
theorem Point_spec (n:Int):Spec Tryz.prog 43 [.d (.int .i64 n)] [] (fun r h'=>r=.d (.int .i64 (pointG n))∧h'=[]):=by
 have hn:=Near_spec n
 have hr1:=Int.emod_nonneg n (b:=1073741788) (by omega)
 have hr2:=Int.emod_lt_of_pos n (b:=1073741788) (by omega)
 have hp:=Pow_spec 4 (nearG n).toNat 31 (by decide) (by unfold nearG;omega) (by unfold nearG;omega)
 rw [Int.toNat_of_nonneg (by unfold nearG;omega)] at hp
 have hp:Spec Tryz.prog 97 [.d (.int .i64 4),.d (.int .i64 (nearG n))] [] (fun r h'=>r=.d (.int .i64 (pointG n))∧h'=[]):=hp
 generalize pointG n=y at hp
 generalize nearG n=z at hn hp
 refine qAb hT Tryz.func43 rfl rfl rfl rfl ?_;intro E hE
 refine ww ?_
 refine wwc hn ?_
 refine ww ?_
 refine wwc hp ?_
 refine ww ?_
 exact wwr
def activeG (key:Int):List UInt8×Int:=if elemG key=true then wrapG 15 [.mk 4 (octB 4 key.toNat) []] else ([],10)
theorem Active_spec (key:Int):Spec Tryz.prog 42 [.d (.int .i64 key)] [] (fun r h'=>r=.tup [.d (.sl 1 (encB (activeG key).1)),.d (.int .i64 (activeG key).2)]∧h'=[]):=by
 have he:=GEncode_spec key
 have hlen:=qBv 4 key.toNat
 have hw1:=wrL_one_le 4 (octB 4 key.toNat) []
 have hw:=Wrap_spec 15 (by omega) [.mk 4 (octB 4 key.toNat) []] (by simp) ⟨⟨by omega,by omega,by simp,trivial⟩,trivial⟩ (by simp [sizeL,sizeN]) (by simp only [wrL,List.length_nil] at hw1 ⊢;omega)
 unfold activeG
 generalize elemG key=c at he
 generalize octB 4 key.toNat=bs at he hw
 generalize wrapG 15 [.mk 4 bs []]=q at hw
 refine qAb hT Tryz.func42 rfl rfl rfl rfl ?_;intro E hE
 refine ww ?_
 refine wwc he ?_
 cases c
 ·refine ww ?_
  refine qAa rfl (fun h1=>?_) (fun h1=>?_)
  ·refine ww ?_
   exact wwr
  ·exact absurd h1 (by simp)
 ·refine ww ?_
  refine qAa rfl (fun h1=>?_) (fun h1=>?_)
  ·exact absurd h1 (by simp)
  ·refine ww ?_
   refine wwc hw ?_
   refine ww ?_
   exact wwr
end Tdoc
namespace Tdoc
open Go Go.Proofs
def bOf (n:Int):UInt8:=UInt8.ofNat (n % 256).toNat
theorem bOf_wrap (n:Int):IntKind.u8.wrap n=((bOf n).toNat:Int):=by
 rw [wrapu8_mod];unfold bOf;rw [toNat_ofNat (by omega)];omega
theorem shr_int8 (n:Int):Int.fdiv n (2 ^ (min (8:Int).toNat IntKind.i64.bits))=n / 256:=by
 rw [show (2 ^ (min (8:Int).toNat IntKind.i64.bits):Int)=256 from rfl,Int.fdiv_eq_ediv_of_nonneg _ (by omega)]
theorem bOf_hi (n:Int):IntKind.u8.wrap (Int.fdiv n (2 ^ (min (8:Int).toNat IntKind.i64.bits)))=((bOf (n / 256)).toNat:Int):=by rw [shr_int8,bOf_wrap]
structure Tpl where
 kind:Int
 part:Int
 frm:Int
 til:Int
 fmt:Int
 qual:Int
 data:List UInt8
def encT (t:Tpl):List Dat:=[.int .i64 t.kind,.int .i64 t.part,.int .i64 t.frm,.int .i64 t.til,.int .i64 t.fmt,.int .i64 t.qual,.sl 1 (encB t.data)]
def encTs (l:List Tpl):List (List Dat):=l.map encT
theorem qDr (l:List Tpl):(encTs l).length=l.length:=by simp [encTs]
theorem encTs_append (a b:List Tpl):encTs (a++b)=encTs a++encTs b:=by simp [encTs]
theorem encTs_at {l:List Tpl} {i:Nat} (h:i < l.length):(encTs l)[((i:Int)).toNat]?=some (encT l[i]):=by simp [encTs,h]
def tCells (t:Tpl):List AV:=[.d (.int .i64 t.kind),.d (.int .i64 t.part),.d (.int .i64 t.frm),.d (.int .i64 t.til),.d (.int .i64 t.fmt),.d (.int .i64 t.qual),.d (.sl 1 (encB t.data))]
def tAV (t:Tpl):AV:=.agg (tCells t)
def mostT (k:Int):Int:=if k=2 then 10 else if k=3 then 2 else 0
def dayOk (n:Int):Bool:=decide (0≤n∧n≤73048)
def validT (t:Tpl):Int :=
 if t.kind≠1∧t.kind≠2∧t.kind≠3 then 14
 else if t.part < 0∨t.part > mostT t.kind∨(mostT t.kind > 0∧t.part=0) then 14
 else if dayOk t.frm=false∨dayOk t.til=false∨t.frm > t.til then 8
 else if t.fmt < 0∨t.fmt > 65535∨t.qual < 0∨t.qual > 100 then 3
 else if t.data.length < 1∨t.data.length > 1024 then 2 else 0
theorem validT_ok {t:Tpl} (h:validT t=0):0≤t.frm∧t.frm≤73048∧0≤t.til∧t.til≤73048∧0≤t.fmt∧t.fmt≤65535∧0≤t.qual∧t.qual≤100∧0≤t.part∧t.part≤10∧1≤t.kind∧t.kind≤3∧1≤t.data.length∧t.data.length≤1024:=by
 unfold validT at h
 split at h
 ·exact absurd h (by omega)
 split at h
 ·exact absurd h (by omega)
 split at h
 ·exact absurd h (by omega)
 split at h
 ·exact absurd h (by omega)
 split at h
 ·exact absurd h (by omega)
 rename_i h1 h2 h3 h4 h5
 have hm:mostT t.kind≤10:=by unfold mostT;split <;> (try split) <;> omega
 simp only [not_or,Bool.not_eq_false,dayOk,decide_eq_true_eq] at h3
 omega
def headT (t:Tpl):List Node:=[.mk 129 [bOf t.kind] [],.mk 130 [bOf t.part] [],.mk 131 (octB 4 t.frm.toNat) [],.mk 132 (octB 4 t.til.toNat) [],.mk 133 [bOf t.qual] [],.mk 136 [bOf (t.fmt / 256),bOf t.fmt] []]
def objT (t:Tpl):Node:=.mk 32608 [] [.mk 161 [] (headT t),.mk 24366 t.data []]
def firstT:List Tpl→Int
 | []=>0
 | t::l=>if validT t≠0 then validT t else firstT l
theorem firstT_mem:∀ {l:List Tpl},firstT l=0→∀ t∈l,validT t=0
 | [],_,t,ht=>by cases ht
 | a::l,h,t,ht=>by
  rw [firstT] at h
  split at h
  ·rename_i h1;exact absurd h h1
  ·rename_i h1
   rcases List.mem_cons.1 ht with rfl | ht
   ·simpa using h1
   ·exact firstT_mem h t ht
def kidsT (l:List Tpl):List Node:=.mk 2 [bOf (l.length:Int)] []::l.map objT
def encTR (l:List Tpl):List Node×Int:=if l.length < 1∨l.length > 8 then ([],2) else if firstT l≠0 then ([],firstT l) else ([.mk 32609 [] (kidsT l)],0)
def fitsT (n:Int) (l:List Tpl):Bool:=l.all fun t=>decide (t.kind=n-1)
def bioF (n:Int) (l:List Tpl):List UInt8×Int :=
 if n < 2∨n > 4 then ([],3) else if (encTR l).2≠0 then ([],(encTR l).2) else if fitsT n l=false then ([],14) else wrapG n (encTR l).1
structure Inf where
 proto:Int
 ver:Int
 par:Int
 key:Int
 kid:Int
def encF (x:Inf):List Dat:=[.int .i64 x.proto,.int .i64 x.ver,.int .i64 x.par,.int .i64 x.key,.int .i64 x.kid]
def encFs (l:List Inf):List (List Dat):=l.map encF
theorem qDt (l:List Inf):(encFs l).length=l.length:=by simp [encFs]
theorem encFs_append (a b:List Inf):encFs (a++b)=encFs a++encFs b:=by simp [encFs]
theorem encFs_at {l:List Inf} {i:Nat} (h:i < l.length):(encFs l)[((i:Int)).toNat]?=some (encF l[i]):=by simp [encFs,h]
def fCells (x:Inf):List AV:=[.d (.int .i64 x.proto),.d (.int .i64 x.ver),.d (.int .i64 x.par),.d (.int .i64 x.key),.d (.int .i64 x.kid)]
def parI (p:Int):Int:=if p=2∨p=3 then 31 else 0
def kidI (p:Int):Int:=if p=4 then 255 else 0
def infE (x:Inf):Int :=
 if x.proto < 2∨x.proto > 6 then 14
 else if x.ver < 1∨x.ver > 255∨x.par < 0∨x.par > parI x.proto∨x.kid < 0∨x.kid > kidI x.proto then 3
 else if (x.proto=4∧elemG x.key=false)∨(x.proto≠4∧x.key≠0) then 10 else 0
def infO (p x:Inf):Bool:=decide (x.proto < p.proto∨(x.proto=p.proto∧x.kid≤p.kid))
def infL:Option Inf→List Inf→Int
 | _,[]=>0
 | p,x::l=>if infE x≠0 then infE x else if (match p with | none=>false | some p=>infO p x)=true then 17 else infL (some x) l
theorem infL_nil (p:Option Inf):infL p []=0:=by cases p <;> rfl
theorem infL_cons (p:Option Inf) (x:Inf) (l:List Inf):infL p (x::l)=if infE x≠0 then infE x else if (match p with | none=>false | some p=>infO p x)=true then 17 else infL (some x) l:=by cases p <;> rfl
def validI (l:List Inf):Int:=if l.length > 16 then 2 else infL none l
def idB (p:Int):List UInt8:=[4,0,127,0,7,2,2]++(if p=2 then [4,1] else if p=3 then [4,2] else if p=4 then [3,1] else if p=5 then [2,1] else [5,1])
def objI (x:Inf):Node:=.mk 48 [] ([.mk 6 (idB x.proto) [],.mk 2 [bOf x.ver] []]++(if x.proto=2∨x.proto=3 then [.mk 2 [bOf x.par] []] else if x.proto=4 then [.mk 4 (octB 4 x.key.toNat) [],.mk 2 [bOf x.kid] []] else []))
def setI (l:List Inf):Node:=.mk 49 [] (l.map objI)
def infosF (l:List Inf):List UInt8×Int:=if validI l≠0 then ([],validI l) else wrapG 14 [setI l]
structure Det where
 tag:Int
 text:List UInt8
def encD (x:Det):List Dat:=[.int .i64 x.tag,.str x.text]
def encDs (l:List Det):List (List Dat):=l.map encD
theorem qCn (l:List Det):(encDs l).length=l.length:=by simp [encDs]
theorem encDs_append (a b:List Det):encDs (a++b)=encDs a++encDs b:=by simp [encDs]
theorem encDs_at {l:List Det} {i:Nat} (h:i < l.length):(encDs l)[((i:Int)).toNat]?=some (encD l[i]):=by simp [encDs,h]
def belongsF (n t:Int):Bool:=if n=11 then decide (t=24334∨(24336≤t∧t≤24341)∨t=24386) else decide (t=24345∨t=24358∨t=24347∨t=24405)
def detL (n:Int):List Det→List Det→Int
 | _,[]=>0
 | seen,x::l=>if belongsF n x.tag=false then 4 else if (seen.any fun y=>decide (y.tag=x.tag))=true then 15 else if x.text.length < 1∨x.text.length > 99 then 2 else detL n (seen++[x]) l
def listD (l:List Det):List UInt8:=(l.map fun x=>[bOf (x.tag / 256),bOf x.tag]).flatten
def kidsD (l:List Det):List Node:=l.map fun x=>.mk x.tag x.text []
def detF (n:Int) (l:List Det):List UInt8×Int :=
 if n≠11∧n≠12 then ([],3) else if l.length > 16 then ([],2) else if detL n [] l≠0 then ([],detL n [] l) else wrapG n (.mk 92 (listD l) []::kidsD l)
theorem listD_append (a b:List Det):listD (a++b)=listD a++listD b:=by simp [listD]
theorem kidsD_append (a b:List Det):kidsD (a++b)=kidsD a++kidsD b:=by simp [kidsD]
theorem listD_length (l:List Det):(listD l).length=2*l.length:=by
 induction l with
 | nil=>rfl
 | cons x l ih=>rw [show x::l=[x]++l from rfl,listD_append,List.length_append,ih,List.length_append];simp [listD];omega
def zoneF (z:Zon):List UInt8×Int:=if validZ z≠0 then ([],validZ z) else wrapG 1 [.mk 24351 (buildZ z).flatten []]
theorem octB4_len (n:Nat):(octB 4 n).length=4:=qBv 4 n
theorem headT_fit (t:Tpl):fitL (headT t)∧sizeL (headT t)=6:=by
 refine ⟨?_,by simp [headT,sizeL,sizeN]⟩
 simp [headT,fitL,fitN,octB4_len]
theorem objT_fit {t:Tpl} (h:t.data.length≤1000000):fitN (objT t)∧sizeN (objT t)=9:=by
 have ⟨h1,h2⟩:=headT_fit t
 refine ⟨?_,by simp [objT,sizeN,sizeL,h2]⟩
 exact ⟨by omega,by simp,by simp,⟨⟨by omega,by simp,by simp [headT],h1⟩,⟨by omega,by omega,by simp,trivial⟩,trivial⟩⟩
theorem objTs_fit:∀ {l:List Tpl},(∀ t∈l,t.data.length≤1000000)→fitL (l.map objT)∧sizeL (l.map objT)=9*l.length
 | [],_=>by simp [fitL,sizeL]
 | t::l,h=>by
  have h1:=objT_fit (h t (by simp))
  have h2:=objTs_fit (l:=l) fun t ht=>h t (by simp [ht])
  rw [List.map_cons]
  exact ⟨⟨h1.1,h2.1⟩,by rw [sizeL,h1.2,h2.2,List.length_cons];omega⟩
theorem encTR_fit (l:List Tpl):fitL (encTR l).1∧sizeL (encTR l).1≤10000∧(encTR l).1.length≤1:=by
 unfold encTR
 split
 ·simp [fitL,sizeL]
 split
 ·simp [fitL,sizeL]
 rename_i h1 h2
 have h3:=objTs_fit (l:=l) fun t ht=>by have:=validT_ok (firstT_mem (by simpa using h2) t ht);omega
 have h4:(l.map objT).length=l.length:=by simp
 simp only [fitL,fitN,sizeL,sizeN,kidsT,h3.2,List.length_cons,h4]
 simp [h3.1]
 omega
theorem objI_fit (x:Inf):fitN (objI x)∧sizeN (objI x)≤5:=by
 unfold objI idB
 split
 ·split <;> (try split) <;> (try split) <;> (try split) <;> simp [fitN,fitL,sizeN,sizeL,octB4_len]
 ·split
  ·split <;> (try split) <;> (try split) <;> (try split) <;> simp [fitN,fitL,sizeN,sizeL,octB4_len]
  ·split <;> (try split) <;> (try split) <;> (try split) <;> simp [fitN,fitL,sizeN,sizeL,octB4_len]
theorem objIs_fit:∀ (l:List Inf),fitL (l.map objI)∧sizeL (l.map objI)≤5*l.length
 | []=>by simp [fitL,sizeL]
 | x::l=>by
  have h1:=objI_fit x
  have h2:=objIs_fit l
  rw [List.map_cons]
  exact ⟨⟨h1.1,h2.1⟩,by rw [sizeL,List.length_cons];omega⟩
theorem setI_fit {l:List Inf} (h:l.length≤16):fitL [setI l]∧sizeL [setI l]≤100:=by
 have h1:=objIs_fit l
 simp only [setI,fitL,fitN,sizeL,sizeN]
 simp [h1.1]
 omega
end Tdoc
namespace Tdoc
open Go
def tagN:Node→Int
 | .mk t _ _=>t
def valN:Node→List UInt8
 | .mk _ v _=>v
def kidN:Node→List Node
 | .mk _ _ k=>k
def nbN (v:List UInt8):Nat:=v.foldl (fun n c=>256*n+c.toNat) 0
theorem nbN_snoc (v:List UInt8) (c:UInt8):nbN (v++[c])=256*nbN v+c.toNat:=by simp [nbN]
theorem nbN_lt:∀ (v:List UInt8),nbN v < 256 ^ v.length:=fun v=>by
 suffices h:∀ (v:List UInt8) (n:Nat),v.foldl (fun n c=>256*n+c.toNat) n < (n+1)*256 ^ v.length by
  have:=h v 0;simpa [nbN] using this
 intro v
 induction v with
 | nil=>intro n;simp
 | cons c v ih =>
  intro n
  have h1:=ih (256*n+c.toNat)
  have h2:=UInt8.toNat_lt c
  rw [List.foldl_cons,List.length_cons,Nat.pow_succ,Nat.mul_comm (256 ^ v.length) 256,← Nat.mul_assoc]
  exact Nat.lt_of_lt_of_le h1 (Nat.mul_le_mul_right _ (by omega))
def primF:Node→Int→Int→Bool
 | .mk t' v k,t,n=>((t' == t)&&((k.length:Int) == 0))&&(decide (n < 0)||((v.length:Int) == n))
def consF:Node→Int→Int→Bool
 | .mk t' v k,t,n=>((t' == t)&&((v.length:Int) == 0))&&(decide (n < 0)||((k.length:Int) == n))
theorem primF_iff {x:Node} {t n:Int}:primF x t n=true↔tagN x=t∧kidN x=[]∧(n < 0∨((valN x).length:Int)=n):=by
 obtain ⟨t',v,k⟩:=x
 simp [primF,tagN,kidN,valN,and_assoc]
theorem consF_iff {x:Node} {t n:Int}:consF x t n=true↔tagN x=t∧valN x=[]∧(n < 0∨((kidN x).length:Int)=n):=by
 obtain ⟨t',v,k⟩:=x
 simp [consF,tagN,kidN,valN,and_assoc]
def fldT:List (Int×Int):=[(129,1),(130,1),(131,4),(132,4),(133,1),(136,2)]
def hdrF:List (Int×Int)→List Node→Option (List Int)
 | [],[]=>some []
 | f::fs,y::l=>if primF y f.1 f.2=true then (hdrF fs l).map (((nbN (valN y):Nat):Int)::·) else none
 | _,_=>none
def decT (x:Node):Option Tpl :=
 if consF x 32608 2=true then match kidN x with
  | [h,d]=>if consF h 161 6=true∧primF d 24366 (-1)=true then match hdrF fldT (kidN h) with
    | some [a,b,c,e,q,f]=>some ⟨a,b,c,e,f,q,valN d⟩
    | _=>none
   else none
  | _=>none
 else none
def decL:List Node→Option (List Tpl)
 | []=>some []
 | x::l=>match decT x with
  | none=>none
  | some t=>(decL l).map (t::·)
def decTs (l:List Node):List Tpl×Int:=match l with
 | [x]=>if consF x 32609 (-1)=true then match kidN x with
   | y::ks=>if primF y 2 1=true∧((nbN (valN y):Nat):Int)=(ks.length:Int) then match decL ks with
     | none=>([],1)
     | some out=>if (encTR out).2≠0 then ([],(encTR out).2) else (out,0)
    else ([],1)
   | []=>([],1)
  else ([],1)
 | _=>([],1)
def bioO (b:List UInt8):Int×List Tpl×Int :=
 if (openX b).2.2≠0 then (0,[],(openX b).2.2) else if (openX b).1 < 2∨(openX b).1 > 4 then (0,[],4)
 else if (decTs (openX b).2.1).2≠0 then (0,[],(decTs (openX b).2.1).2) else if fitsT (openX b).1 (decTs (openX b).2.1).1=false then (0,[],14) else ((openX b).1,(decTs (openX b).2.1).1,0)
def protoF (v:List UInt8):Int:=if v=idB 2 then 2 else if v=idB 3 then 3 else if v=idB 4 then 4 else if v=idB 5 then 5 else if v=idB 6 then 6 else 0
def infX (x:Node):Option Inf :=
 if consF x 48 (-1)=true then match kidN x with
  | i::v::r=>if primF i 6 9=true∧primF v 2 1=true then
    (if protoF (valN i)=0 then none
    else if protoF (valN i)=2∨protoF (valN i)=3 then match r with
     | [p]=>if primF p 2 1=true then some ⟨protoF (valN i),nbN (valN v),nbN (valN p),0,0⟩ else none
     | _=>none
    else if protoF (valN i)=4 then match r with
     | [k,d]=>if primF k 4 4=true∧primF d 2 1=true then some ⟨4,nbN (valN v),0,nbN (valN k),nbN (valN d)⟩ else none
     | _=>none
    else match r with
     | []=>some ⟨protoF (valN i),nbN (valN v),0,0,0⟩
     | _=>none)
   else none
  | _=>none
 else none
def infXs:List Node→Option (List Inf)
 | []=>some []
 | x::l=>match infX x with
  | none=>none
  | some t=>(infXs l).map (t::·)
def decI (b:List UInt8):List Inf×Int :=
 if (parseX b true).2≠0 then ([],(parseX b true).2) else match (parseX b true).1 with
  | [x]=>if consF x 49 (-1)=true then match infXs (kidN x) with
    | none=>([],1)
    | some out=>if validI out≠0 then ([],validI out) else (out,0)
   else ([],1)
  | _=>([],1)
end Tdoc
namespace Tdoc
open Go Go.Proofs
end Tdoc
namespace Tdoc
open Go Go.Proofs
theorem loopX_sub {f g:Rd} {e:Nat} (h:∀ p c,(f p c).2.1=0→g p c=f p c):∀ (m p c:Nat) (out:List Node),(loopX f e m p c out).2.1=0→loopX g e m p c out=loopX f e m p c out
 | 0,p,c,out,_=>rfl
 | m+1,p,c,out,h0=>by
  rw [loopX] at h0 ⊢
  rw [loopX]
  by_cases hp:p < e
  ·rw [if_pos hp] at h0 ⊢
   rw [if_pos hp]
   by_cases hf:(f p c).2.1=0
   ·rw [h p c hf]
    rw [if_neg (by simp [hf])] at h0 ⊢
    rw [if_neg (by simp [hf])]
    exact loopX_sub h m _ _ _ h0
   ·rw [if_pos hf] at h0
    exact absurd h0 hf
  ·rw [if_neg hp,if_neg hp]
theorem lenX_loose {b:List UInt8} {e q:Nat} (op:Bool) (h:(lenX b e false true q).2.1=0):lenX b e op false q=lenX b e false true q∧(lenX b e false true q).1≠-1:=by
 unfold lenX at h ⊢
 generalize numB b (q+1) (byteAt b q % 16) 0=nb at *
 generalize 2 ^ (8*(byteAt b q % 16-1))=pw at *
 generalize byteAt b q=x at *
 by_cases h1:e≤q
 ·simp [h1] at h
 by_cases h2:x < 128
 ·simp [h1,h2]
 by_cases h3:132 < x
 ·simp [h1,h2,h3] at h
 by_cases h4:x=128
 ·simp [h1,h2,h4] at h
 by_cases h5:e < q+1+x % 16
 ·simp [h1,h2,h3,h4,h5] at h
 by_cases h6:nb < 128∨nb / pw=0
 ·simp only [h1,h2,h3,h4,h5,h6,if_true,if_false,false_and,or_false,and_self] at h
  exact absurd h (by simp)
 ·simp only [h1,h2,h3,h4,h5,h6,if_true,if_false,false_and,or_false,and_false,Bool.false_eq_true]
  exact ⟨trivial,by omega⟩
theorem objY_sub {b:List UInt8} {g g':Nat→Rd} {e d:Nat} {t:Int} {n:Int×Int×Nat} {c:Nat} (hg:∀ e p c,(g e p c).2.1=0→g' e p c=g e p c) (hn:n.1≠-1) (h:(objY b g e d t n c).2.1=0):objY b g' e d t n c=objY b g e d t n c:=by
 unfold objY at h ⊢
 split
 ·rfl
 split
 ·rfl
 split
 ·rfl
 split
 ·rfl
 rename_i g0 g1 g2 g3
 simp only [if_neg g0,if_neg g1,if_neg g2,if_neg g3,if_neg hn] at h ⊢
 split
 ·rename_i hc
  simp only [if_pos hc] at h
  rw [loopX_sub (fun p c hf=>hg _ p c hf) _ _ _ _ h]
 ·rfl
theorem objX_sub (b:List UInt8):∀ (k e d p c:Nat),(objX b true k e d p c).2.1=0→objX b false k e d p c=objX b true k e d p c
 | 0,e,d,p,c,h=>rfl
 | k+1,e,d,p,c,h=>by
  rw [objX] at h
  rw [objX,objX]
  by_cases ht:(tagX b e p).2.1≠0
  ·rw [if_pos ht,if_pos ht]
  rw [if_neg ht] at h
  rw [if_neg ht,if_neg ht]
  rw [Bool.not_true,Bool.and_false] at h ⊢
  rw [Bool.not_false,Bool.and_true]
  by_cases hl:(lenX b e false true (tagX b e p).2.2).2.1=0
  ·obtain ⟨h1,h2⟩:=lenX_loose (tagCons (tagX b e p).1) hl
   rw [h1]
   exact objY_sub (fun e' p c hf=>objX_sub b k e' (d+1) p c hf) h2 h
  ·unfold objY at h
   rw [if_pos hl] at h
   exact absurd h hl
theorem parseX_sub {b:List UInt8} (h:(parseX b true).2=0):parseX b false=parseX b true:=by
 unfold parseX at h ⊢
 split
 ·rfl
 ·rename_i hb
  rw [if_neg hb] at h
  rw [loopX_sub (fun p c hf=>objX_sub b 9 _ _ p c hf) _ _ _ _ h]
mutual
def wgtN:Node→Nat
 | .mk _ v k=>11+v.length+wgtL k
def wgtL:List Node→Nat
 | []=>0
 | a::l=>wgtN a+wgtL l
end
def Good (f:Rd) (d:Nat):Prop:=∀ p c,(f p c).2.1=0→(chkN d (f p c).1 0).1=0∧(f p c).2.2.2=c+sizeN (f p c).1∧wgtN (f p c).1+11*p≤11*(f p c).2.2.1
def GoodL (d p c:Nat) (out:List Node) (r:List Node×Int×Nat×Nat):Prop:=r.2.1=0→∃ new,r.1=out++new∧(∀ n,n∈new→(chkN d n 0).1=0)∧r.2.2.2=c+sizeL new∧wgtL new+11*p≤11*r.2.2.1
theorem GoodL.step {f:Rd} {d p c:Nat} {out:List Node} {r:List Node×Int×Nat×Nat} (hf:Good f d) (h0:(f p c).2.1=0) (h:GoodL d (f p c).2.2.1 (f p c).2.2.2 (out++[(f p c).1]) r):GoodL d p c out r:=by
 intro hr
 obtain ⟨new,h1,h2,h3,h4⟩:=h hr
 obtain ⟨g1,g2,g3⟩:=hf p c h0
 refine ⟨(f p c).1::new,by rw [h1];simp,fun n hn=>?_,by rw [h3,g2,sizeL];omega,by rw [wgtL];omega⟩
 rcases List.mem_cons.1 hn with rfl | hn
 ·exact g1
 ·exact h2 n hn
theorem GoodL.nil {d p c:Nat} {out:List Node} {e:Int} {q:Nat} (hq:p≤q):GoodL d p c out (out,e,q,c):=fun _=>⟨[],by simp,fun n hn=>(by cases hn),by simp [sizeL],by simp [wgtL];omega⟩
theorem loopX_good {f:Rd} {d e:Nat} (hf:Good f d):∀ (m p c:Nat) (out:List Node),GoodL d p c out (loopX f e m p c out)
 | 0,p,c,out=>GoodL.nil (Nat.le_refl _)
 | m+1,p,c,out=>by
  rw [loopX]
  split
  ·split
   ·rename_i h;exact fun h0=>absurd h0 h
   ·rename_i h
    exact GoodL.step hf (by simpa using h) (loopX_good hf m _ _ _)
  ·exact GoodL.nil (Nat.le_refl _)
theorem kidsX_good {b:List UInt8} {f:Rd} {d e:Nat} (hf:Good f d):∀ (m p c:Nat) (out:List Node),GoodL d p c out (kidsX b f e m p c out)
 | 0,p,c,out=>fun h=>absurd h (by simp [kidsX])
 | m+1,p,c,out=>by
  rw [kidsX]
  split
  ·exact fun h=>absurd h (by simp)
  ·split
   ·exact GoodL.nil (by omega)
   ·split
    ·rename_i h;exact fun h0=>absurd h0 h
    ·rename_i h
     exact GoodL.step hf (by simpa using h) (kidsX_good hf m _ _ _)
theorem chkL_of {d:Nat}:∀ {l:List Node} {c:Nat},(∀ n,n∈l→(chkN d n 0).1=0)→(chkL d l c).1=0
 | [],_,_=>rfl
 | a::l,c,h=>by
  rw [chkL,if_pos (by rw [chkN_any d a c 0];exact h a (by simp))]
  exact chkL_of fun n hn=>h n (by simp [hn])
theorem tagX_inv {b:List UInt8} {e p:Nat} (h:(tagX b e p).2.1=0):p < (tagX b e p).2.2∧tagOk (tagX b e p).1=true:=by
 unfold tagX at h ⊢
 split at h
 ·exact absurd h (by simp)
 ·rename_i h1
  rw [if_neg h1]
  split at h
  ·rename_i h2
   rw [if_pos h2]
   split at h
   ·exact absurd h (by simp)
   ·rename_i h3
    rw [if_neg h3]
    split at h
    ·rename_i h4
     rw [if_pos h4]
     exact ⟨by simp only;omega,h4⟩
    ·exact absurd h (by simp)
  ·rename_i h2
   rw [if_neg h2]
   split at h
   ·rename_i h4
    rw [if_pos h4]
    exact ⟨by simp only;omega,h4⟩
   ·exact absurd h (by simp)
theorem lenX_inv {b:List UInt8} {e p:Nat} {op st:Bool} (h:(lenX b e op st p).2.1=0):p < (lenX b e op st p).2.2∧((lenX b e op st p).1 = -1→op=true):=by
 unfold lenX at h ⊢
 split at h
 ·exact absurd h (by simp)
 ·rename_i h1
  rw [if_neg h1]
  split at h
  ·rename_i h2
   rw [if_pos h2]
   exact ⟨by simp only;omega,fun hh=>by simp only at hh;omega⟩
  ·rename_i h2
   rw [if_neg h2]
   split at h
   ·exact absurd h (by simp)
   ·rename_i h3
    rw [if_neg h3]
    split at h
    ·rename_i h4
     rw [if_pos h4]
     refine ⟨by simp only;omega,fun _=>?_⟩
     cases op
     ·simp [h4] at h3
     ·rfl
    ·rename_i h4
     rw [if_neg h4]
     split at h
     ·exact absurd h (by simp)
     ·rename_i h5
      rw [if_neg h5]
      split at h
      ·exact absurd h (by simp)
      ·rename_i h6
       rw [if_neg h6]
       exact ⟨by simp only;omega,fun hh=>by simp only at hh;omega⟩
theorem objX_good (b:List UInt8) (st:Bool):∀ (k e d:Nat),Good (objX b st k e d) d
 | 0,e,d=>fun p c h=>by simp [objX] at h
 | k+1,e,d=>fun p c h=>by
  have ih:=fun e'=>objX_good b st k e' (d+1)
  rw [objX] at h ⊢
  by_cases ht:(tagX b e p).2.1≠0
  ·rw [if_pos ht] at h;exact absurd h ht
  rw [if_neg ht] at h ⊢
  obtain ⟨t1,t2⟩:=tagX_inv (by simpa using ht)
  unfold objY at h ⊢
  by_cases hl:(lenX b e (tagCons (tagX b e p).1&&!st) st (tagX b e p).2.2).2.1≠0
  ·rw [if_pos hl] at h;exact absurd h hl
  obtain ⟨l1,l2⟩:=lenX_inv (by simpa using hl)
  rw [if_neg hl] at h ⊢
  generalize (tagX b e p).1=t at *
  generalize lenX b e (tagCons t&&!st) st (tagX b e p).2.2=n at *
  split at h
  ·exact absurd h (by simp)
  rename_i g1
  rw [if_neg g1]
  split at h
  ·exact absurd h (by simp)
  rename_i g2
  rw [if_neg g2]
  split at h
  ·exact absurd h (by simp)
  rename_i g3
  rw [if_neg g3]
  have hcase:∀ (r:List Node×Int×Nat×Nat),tagCons t=true→GoodL (d+1) n.2.2 (c+1) [] r→r.2.1=0→(chkN d (.mk t [] r.1) 0).1=0∧r.2.2.2=c+sizeN (.mk t [] r.1)∧wgtN (.mk t [] r.1)+11*p≤11*r.2.2.1:=by
   intro r hc hg hr
   obtain ⟨new,q1,q2,q3,q4⟩:=hg hr
   rw [List.nil_append] at q1
   rw [q1]
   refine ⟨?_,by rw [q3,sizeN];omega,by rw [wgtN];simp;omega⟩
   rw [chkN,if_neg (by simp [t2]),if_neg (by simp [hc]),if_neg (by omega)]
   exact chkL_of q2
  split at h
  ·rename_i g4
   rw [if_pos g4]
   have hc:tagCons t=true:=by
    have:=l2 g4
    simp at this;exact this.1
   exact hcase _ hc (kidsX_good (ih _) _ _ _ _) h
  ·rename_i g4
   rw [if_neg g4]
   split at h
   ·rename_i g5
    rw [if_pos g5]
    exact hcase _ g5 (loopX_good (ih _) _ _ _ _) h
   ·rename_i g5
    rw [if_neg g5]
    refine ⟨?_,by simp only [sizeN,sizeL],?_⟩
    ·rw [chkN,if_neg (by simp [t2]),if_neg (by simp at g5;simp [g5]),if_neg (by omega)]
     rfl
    ·simp only [wgtN,wgtL,List.length_take];omega
theorem parseX_good {b:List UInt8} {st:Bool} (h:(parseX b st).2=0):b.length≤4096∧(chkL 1 (parseX b st).1 0).1=0∧sizeL (parseX b st).1≤256∧wgtL (parseX b st).1≤11*b.length:=by
 unfold parseX at h ⊢
 split at h
 ·exact absurd h (by simp)
 ·rename_i hb
  rw [if_neg hb]
  have hok:=loopX_ok (objX_ok b st 9 b.length 1) (b.length+1) 0 0 [] (by omega) (by omega)
  obtain ⟨new,h1,h2,h3,h4⟩:=loopX_good (d:=1) (e:=b.length) (objX_good b st 9 b.length 1) (b.length+1) 0 0 [] h
  rw [List.nil_append] at h1
  have:=hok.2.2.2 h
  refine ⟨by omega,?_,?_,?_⟩
  ·simp only;rw [h1];exact chkL_of h2
  ·simp only;rw [h1];omega
  ·simp only;rw [h1];omega
end Tdoc
namespace Tdoc
open Go Go.Proofs
end Tdoc
namespace Tdoc
open Go Go.Proofs
def openZ (b:List UInt8) (lo hi:Int):Int×List Node×Int :=
 if (openX b).2.2≠0 then (0,[],(openX b).2.2) else if (openX b).1 < lo∨(openX b).1 > hi then (0,[],4) else ((openX b).1,(openX b).2.1,0)
end Tdoc
namespace Tdoc
open Go Go.Proofs
def At (b:List UInt8) (e p:Nat) (s:List UInt8):Prop:=p+s.length≤e∧∀ i,i < s.length→byteAt b (p+i)=(s.getD i 0).toNat
theorem At.left {b:List UInt8} {e p:Nat} {s r:List UInt8} (h:At b e p (s++r)):At b e p s:=by
 obtain ⟨h1,h2⟩:=h
 rw [List.length_append] at h1 h2
 refine ⟨by omega,fun i hi=>?_⟩
 rw [h2 i (by omega),List.getD_eq_getElem?_getD,List.getD_eq_getElem?_getD,List.getElem?_append_left hi]
theorem At.right {b:List UInt8} {e p:Nat} {s r:List UInt8} (h:At b e p (s++r)):At b e (p+s.length) r:=by
 obtain ⟨h1,h2⟩:=h
 rw [List.length_append] at h1 h2
 refine ⟨by omega,fun i hi=>?_⟩
 rw [Nat.add_assoc,h2 _ (by omega),List.getD_eq_getElem?_getD,List.getD_eq_getElem?_getD,List.getElem?_append_right (by omega),Nat.add_sub_cancel_left]
theorem At.head {b:List UInt8} {e p:Nat} {x:UInt8} {r:List UInt8} (h:At b e p (x::r)):byteAt b p=x.toNat∧p < e∧At b e (p+1) r:=by
 obtain ⟨h1,h2⟩:=h
 simp only [List.length_cons] at h1 h2
 refine ⟨by simpa using h2 0 (by omega),by omega,by omega,fun i hi=>?_⟩
 have:=h2 (i+1) (by omega)
 rw [Nat.add_comm i 1,← Nat.add_assoc] at this
 rw [this,Nat.add_comm 1 i];rfl
theorem At.mono {b:List UInt8} {e e' p:Nat} {s:List UInt8} (h:At b e p s) (he:p+s.length≤e'):At b e' p s:=⟨he,h.2⟩
theorem At.whole (b:List UInt8):At b b.length 0 b:=⟨by omega,fun i hi=>by unfold byteAt;rw [Nat.zero_add]⟩
theorem At.cut {b:List UInt8} {e p:Nat} {s:List UInt8} (h:At b e p s) (he:e≤b.length):(b.drop p).take s.length=s:=by
 obtain ⟨h1,h2⟩:=h
 apply List.ext_getElem
 ·simp;omega
 ·intro i h3 h4
  have:=h2 i h4
  unfold byteAt at this
  rw [List.getD_eq_getElem?_getD,List.getElem?_eq_getElem (by omega),List.getD_eq_getElem?_getD,List.getElem?_eq_getElem h4] at this
  simp only [Option.getD_some] at this
  simp only [List.getElem_take,List.getElem_drop]
  exact UInt8.toNat_inj.1 this
theorem toNat_mod (n:Nat):(UInt8.ofNat n).toNat=n % 256:=by simp
theorem tagX_at {b:List UInt8} {e p:Nat} {t:Int} (ht:tagOk t=true) (h:At b e p (tagB t)):tagX b e p=(t,0,p+(tagB t).length)∧byteAt b p≠0:=by
 have hr:=tagOk_range ht
 unfold tagB at h ⊢
 by_cases h1:t > 255
 ·rw [if_pos h1] at h ⊢
  obtain ⟨a1,a2,a3⟩:=h.head
  obtain ⟨b1,b2,b3⟩:=a3.head
  rw [toNat_mod] at a1 b1
  have hh:tagOk t=true:=ht
  unfold tagOk at hh
  rw [if_neg (by omega)] at hh
  simp only [Bool.and_eq_true,decide_eq_true_eq,beq_iff_eq] at hh
  have e1:byteAt b p=(t / 256).toNat:=by rw [a1];omega
  have e2:byteAt b (p+1)=(t % 256).toNat:=by rw [b1];omega
  have e3:((byteAt b p*256+byteAt b (p+1):Nat):Int)=t:=by rw [e1,e2];omega
  refine ⟨?_,by omega⟩
  unfold tagX
  rw [if_neg (by omega),if_pos (by omega),if_neg (by omega),e3,if_pos ht]
  rfl
 ·rw [if_neg h1] at h ⊢
  obtain ⟨a1,a2,a3⟩:=h.head
  rw [toNat_mod] at a1
  have hh:tagOk t=true:=ht
  unfold tagOk at hh
  rw [if_pos (by omega)] at hh
  simp only [Bool.and_eq_true,decide_eq_true_eq,Bool.not_eq_true',beq_eq_false_iff_ne] at hh
  have e1:byteAt b p=t.toNat:=by rw [a1];omega
  have e3:((byteAt b p:Nat):Int)=t:=by rw [e1];omega
  refine ⟨?_,by omega⟩
  unfold tagX
  rw [if_neg (by omega),if_neg (by omega),e3,if_pos ht]
  rfl
inductive Steps (b:List UInt8) (f:Rd) (e:Nat):Nat→Nat→List Node→Nat→Nat→Prop where
 | nil (p c:Nat):Steps b f e p c [] p c
 | cons {p c p1 c1 p2 c2:Nat} {n:Node} {l:List Node}:p < e→byteAt b p≠0→f p c=(n,0,p1,c1)→Steps b f e p1 c1 l p2 c2→Steps b f e p c (n::l) p2 c2
theorem Steps.loop {b:List UInt8} {f:Rd} {e p c:Nat} {l:List Node} {p2 c2:Nat} (h:Steps b f e p c l p2 c2) (h2:p2=e):∀ (m:Nat) (out:List Node),l.length < m→loopX f e m p c out=(out++l,0,e,c2):=by
 induction h with
 | nil p c =>
  intro m out hm
  obtain ⟨m,rfl⟩:∃ k,m=k+1:=⟨m-1,by omega⟩
  rw [loopX,if_neg (by omega),List.append_nil,h2]
 | cons h1 h3 h4 h5 ih =>
  intro m out hm
  obtain ⟨m,rfl⟩:∃ k,m=k+1:=⟨m-1,by omega⟩
  rw [loopX,if_pos h1,h4,if_neg (by simp)]
  simp only
  rw [ih h2 m _ (by simp only [List.length_cons] at hm;omega),List.append_assoc]
  rfl
theorem Steps.len {b:List UInt8} {f:Rd} {e p c:Nat} {l:List Node} {p2 c2:Nat} (hf:RdOk f e) (h:Steps b f e p c l p2 c2) (hp:p≤e) (hc:c≤256):p+l.length≤p2∧p2≤e:=by
 induction h with
 | nil p c=>exact ⟨by simp,hp⟩
 | cons h1 h3 h4 h5 ih =>
  have:=hf _ _ hp hc
  rw [h4] at this
  simp only at this
  obtain ⟨i1,i2⟩:=ih this.2.1 (this.2.2.2 trivial).2
  have:=(this.2.2.2 trivial).1
  exact ⟨by simp only [List.length_cons];omega,i2⟩
theorem chkN_inv {d:Nat} {t:Int} {v:List UInt8} {k:List Node} {c:Nat} (h:(chkN d (.mk t v k) c).1=0):tagOk t=true∧(tagCons t=false→k=[])∧(tagCons t=true→v=[])∧d≤8∧(chkL (d+1) k (c+1)).1=0:=by
 rw [chkN] at h
 split at h
 ·exact absurd h (by simp)
 rename_i h1
 split at h
 ·exact absurd h (by simp)
 rename_i h2
 split at h
 ·exact absurd h (by simp)
 rename_i h3
 refine ⟨by simpa using h1,fun hc=>?_,fun hc=>?_,by omega,h⟩
 ·simp [hc] at h2;exact h2
 ·simp [hc] at h2;exact h2
theorem chkL_inv {d:Nat} {a:Node} {l:List Node} {c:Nat} (h:(chkL d (a::l) c).1=0):(chkN d a c).1=0∧(chkL d l 0).1=0:=by
 rw [chkL] at h
 split at h
 ·rename_i h1
  exact ⟨h1,by rw [chkL_any d l 0 _];exact h⟩
 ·rename_i h1;exact absurd h h1
end Tdoc
namespace Tdoc
open Go Go.Proofs
theorem chkL_mem {d:Nat}:∀ {l:List Node} {n:Node},(chkL d l 0).1=0→n∈l→(chkN d n 0).1=0
 | a::l,n,h,hm=>by
  have h2:=chkL_inv h
  rcases List.mem_cons.1 hm with rfl | hm
  ·exact h2.1
  ·exact chkL_mem h2.2 hm
theorem len_wgt:∀ (l:List Node),l.length≤wgtL l
 | []=>by simp
 | .mk t v k::l=>by have:=len_wgt l;rw [wgtL,wgtN,List.length_cons];omega
end Tdoc
namespace Tdoc
open Go Go.Proofs
def WfN (d:Nat) (n:Node):Prop:=(chkN d n 0).1=0
theorem WfN.prim {d:Nat} {t:Int} {v:List UInt8} {k:List Node} (h:WfN d (.mk t v k)) (ht:tagCons t=false):k=[]:=(chkN_inv h).2.1 ht
theorem WfN.cons {d:Nat} {t:Int} {v:List UInt8} {k:List Node} (h:WfN d (.mk t v k)) (ht:tagCons t=true):v=[]:=(chkN_inv h).2.2.1 ht
theorem WfN.kids {d:Nat} {t:Int} {v:List UInt8} {k:List Node} (h:WfN d (.mk t v k)):∀ n,n∈k→WfN (d+1) n:=fun n hn=>by
 have h5:=(chkN_inv h).2.2.2.2
 exact chkL_mem (by rw [chkL_any (d+1) k 0 (0+1)];exact h5) hn
theorem openX_wf (b:List UInt8):∀ n,n∈(openX b).2.1→WfN 2 n:=by
 unfold openX
 split
 ·intro n hn;cases hn
 ·rename_i h
  have hg:=(parseX_good (b:=b) (st:=false) (by omega)).2.1
  split
  ·rename_i t v k hk
   rw [hk] at hg
   split
   ·intro n hn;cases hn
   ·exact fun n hn=>WfN.kids (show WfN 1 (.mk t v k) from (chkL_inv hg).1) n hn
  ·intro n hn;cases hn
theorem openZ_eq (b:List UInt8) (n:Int):(openZ b n n).2.1=(openY b n).1∧(openZ b n n).2.2=(openY b n).2:=by
 unfold openZ openY
 split
 ·exact ⟨rfl,rfl⟩
 ·by_cases h:(openX b).1=n
  ·rw [if_neg (by omega),if_neg (by omega)];exact ⟨rfl,rfl⟩
  ·rw [if_pos (by omega),if_pos h];exact ⟨rfl,rfl⟩
theorem openY_wf (b:List UInt8) (n:Int):∀ x,x∈(openY b n).1→WfN 2 x:=by
 unfold openY
 split
 ·intro x hx;cases hx
 split
 ·intro x hx;cases hx
 ·exact openX_wf b
theorem primF_any {t' t:Int} {v:List UInt8} {k:List Node} (hk:t'=t→k=[]):primF (.mk t' v k) t (-1)=true↔t'=t:=by
 rw [primF_iff]
 exact ⟨fun h=>h.1,fun h=>⟨h,hk h,.inl (by omega)⟩⟩
end Tdoc
namespace Tdoc
open Go Go.Proofs
end Tdoc
namespace Tdoc
open Go Go.Proofs
theorem qCp {s:List UInt8} {i:Nat} (h:i < s.length):strAt s (i:Int)=bI s[i]:=strAt_get h
theorem drop_cons {α:Type} {s:List α} {i:Nat} (h:i < s.length):s.drop i=s[i]::s.drop (i+1):=by simp
theorem Value_spec (n:Int) (hn:0≤n∧n < 256):Spec Tryz.prog 175 [.d (.int .u8 n)] [] (fun r h'=>r=.d (.int .i64 (valC n))∧h'=[]):=by
 unfold valC
 refine qAb hT Tryz.func175 rfl rfl rfl rfl ?_;intro E hE
 refine ww ?_
 refine qAa rfl (fun h1=>?_) (fun h1=>?_)
 ·have h1':48≤n∧n≤57:=by simpa using h1
  rw [if_pos h1']
  have hw:IntKind.i64.wrap (IntKind.u8.wrap (n-48))=n-48:=by rw [wrapu8 (by omega),qAe (by omega)]
  refine ww ?_
  exact wwr
 ·have h1':¬ (48≤n∧n≤57):=by simpa using h1
  rw [if_neg h1']
  refine ww ?_
  refine qAa rfl (fun h2=>?_) (fun h2=>?_)
  ·have h2':65≤n∧n≤90:=by simpa using h2
   rw [if_pos h2']
   have hw:IntKind.i64.wrap (IntKind.i64.wrap (IntKind.u8.wrap (n-65))+10)=n-55:=by rw [wrapu8 (by omega),qAe (n:=n-65) (by omega),qAe (by omega)];omega
   refine ww ?_
   exact wwr
  ·have h2':¬ (65≤n∧n≤90):=by simpa using h2
   rw [if_neg h2']
   refine ww ?_
   refine qAa rfl (fun h3=>?_) (fun h3=>?_)
   ·have h3':n=60:=by simpa using h3
    rw [if_pos h3']
    refine ww ?_
    exact wwr
   ·have h3':¬ n=60:=by simpa using h3
    rw [if_neg h3']
    refine ww ?_
    exact wwr
theorem ValidS_spec (s:List UInt8) (hs:s.length≤1000000):Spec Tryz.prog 174 [.d (.str s)] [] (fun r h'=>r=.d (.bool (validS s))∧h'=[]):=by
 generalize hfin:validS s=fin
 refine qAb hT Tryz.func174 rfl rfl rfl rfl ?_;intro E hE
 refine ww ?_
 refine qAq (ι:=Nat) (fun i=>[(0,.d (.str s)),(3,.d (.int .i64 (i:Int)))]) (fun _=>[]) (fun i=>i≤s.length∧validS (s.drop i)=fin) (fun i=>s.length-i) 0 ⟨by omega,by simpa using hfin⟩ ⟨.refl _,.refl _,trivial⟩ (HLe.refl _) ?_
 rintro i ⟨hi,hg⟩
 have hwr:IntKind.i64.wrap ((i:Int)+1)=((i+1:Nat):Int):=by rw [qAe (by omega)];simp
 refine ww ?_
 refine qAa rfl (fun h1=>?_) (fun h1=>?_)
 ·have h1':i < s.length:=by simpa using h1
  have hsa:=qCp h1'
  rw [drop_cons h1',validS] at hg
  have hr:=bI_range s[i]
  generalize s[i]=c at hsa hg hr
  have hv:=Value_spec (strAt s (i:Int)) (by rw [hsa];exact hr)
  rw [hsa] at hv
  rw [← hsa] at hv
  refine ww ?_
  refine wwc hv ?_
  refine ww ?_
  refine qAa rfl (fun h2=>?_) (fun h2=>?_)
  ·have h2':¬ 0≤valC (bI c):=by rw [hsa] at h2;simp at h2;omega
   rw [decide_eq_false h2',Bool.false_and] at hg
   subst hg
   refine ww ?_
   exact wwr
  ·have h2':0≤valC (bI c):=by rw [hsa] at h2;simp at h2;omega
   rw [decide_eq_true h2',Bool.true_and] at hg
   refine ww ?_
   exact ⟨i+1,⟨by omega,hg⟩,by omega,⟨.refl _,.int hwr,trivial⟩,HLe.refl _⟩
 ·have h1':i=s.length:=by simp at h1;omega
  subst h1'
  rw [List.drop_length,validS] at hg
  subst hg
  refine ww ?_
  exact wwr
theorem wgtC_at (i:Nat):([AV.d (.int .i64 7),.d (.int .i64 3),.d (.int .i64 1)]:List AV)[(Int.tmod (i:Int) 3).toNat]?=some (.d (.int .i64 (wgtC i))):=by
 rw [show Int.tmod (i:Int) 3=((i % 3:Nat):Int) from Int.ofNat_tmod i 3,Int.toNat_natCast]
 unfold wgtC
 have:i % 3=0∨i % 3=1∨i % 3=2:=by omega
 rcases this with h | h | h <;> rw [h] <;> rfl
theorem wgtC_range (i:Nat):1≤wgtC i∧wgtC i≤7:=by unfold wgtC;split <;> (try split) <;> omega
theorem digSum_snoc:∀ (i:Nat) (s:List UInt8) (c:UInt8),digSum i (s++[c])=digSum i s+wgtC (i+s.length)*valC (bI c)
 | i,[],c=>by simp [digSum]
 | i,x::s,c=>by
  rw [List.cons_append,digSum,digSum,digSum_snoc (i+1) s c,List.length_cons]
  rw [show i+1+s.length=i+(s.length+1) by omega];omega
theorem validS_take:∀ (s:List UInt8) (i:Nat),validS s=true→validS (s.take i)=true
 | [],i,h=>by simp [validS]
 | c::s,0,h=>rfl
 | c::s,i+1,h=>by
  simp only [validS,Bool.and_eq_true,List.take_succ_cons] at h ⊢
  exact ⟨h.1,validS_take s i h.2⟩
theorem validS_at:∀ {s:List UInt8} {c:UInt8},validS s=true→c∈s→0≤valC (bI c)
 | x::s,c,h,hm=>by
  simp only [validS,Bool.and_eq_true,decide_eq_true_eq] at h
  rcases List.mem_cons.1 hm with rfl | hm
  ·exact h.1
  ·exact validS_at h.2 hm
theorem Digit_spec (s:List UInt8) (hs:s.length≤1000000):Spec Tryz.prog 105 [.d (.str s)] [] (fun r h'=>r=.tup [.d (.str (digitF s).1),.d (.int .i64 (digitF s).2)]∧h'=[]):=by
 have hv:=ValidS_spec s hs
 unfold digitF
 generalize hvs:validS s=ok at hv
 refine qAb hT Tryz.func105 rfl rfl rfl rfl ?_;intro E hE
 refine ww ?_
 refine wwc hv ?_
 refine ww ?_
 refine qAa rfl (fun h1=>?_) (fun h1=>?_)
 ·have h1':ok=false:=by simpa using h1
  subst h1'
  refine ww ?_
  exact wwr
 ·have h1':ok=true:=by simpa using h1
  subst h1'
  rw [if_pos rfl]
  refine ww ?_
  refine qAq (ι:=Nat) (fun i=>[(0,.d (.str s)),(4,.d (.int .i64 (digSum 0 (s.take i)))),(5,.d (.int .i64 (i:Int)))]) (fun _=>[]) (fun i=>i≤s.length) (fun i=>s.length-i) 0 (by omega) ⟨.refl _,.refl _,.refl _,trivial⟩ (HLe.refl _) ?_
  rintro i hi
  have hwr:IntKind.i64.wrap ((i:Int)+1)=((i+1:Nat):Int):=by rw [qAe (by omega)];simp
  have hdr:=digSum_range 0 (s.take i) (validS_take s i hvs)
  rw [List.length_take] at hdr
  refine ww ?_
  refine qAa rfl (fun h2=>?_) (fun h2=>?_)
  ·have h2':i < s.length:=by simpa using h2
   have hsa:=qCp h2'
   have htk:s.take (i+1)=s.take i++[s[i]]:=List.take_succ_eq_append_getElem h2'
   have hsn:=digSum_snoc 0 (s.take i) s[i]
   rw [← htk,List.length_take,Nat.min_eq_left (by omega),Nat.zero_add] at hsn
   have hr:=bI_range s[i]
   have hval:=validS_at hvs (List.getElem_mem h2')
   generalize s[i]=c at hsa hsn hr hval
   have hval2:=valC_range (bI c)
   have hva:=Value_spec (strAt s (i:Int)) (by rw [hsa];exact hr)
   have hwg:=wgtC_range i
   have hix:=wgtC_at i
   have htm:0≤Int.tmod (i:Int) 3∧Int.tmod (i:Int) 3 < ((3:Nat):Int):=by rw [show Int.tmod (i:Int) 3=((i % 3:Nat):Int) from Int.ofNat_tmod i 3];omega
   have hprod:0≤valC (bI c)*wgtC i∧valC (bI c)*wgtC i≤35*7:=⟨Int.mul_nonneg hval (by omega),Int.mul_le_mul hval2.2 hwg.2 (by omega) (by omega)⟩
   have hww:IntKind.i64.wrap (digSum 0 (s.take i)+IntKind.i64.wrap (valC (strAt s (i:Int))*wgtC i))=digSum 0 (s.take (i+1)):=by
    rw [hsa,qAe (n:=valC (bI c)*wgtC i) (by omega),qAe (by omega),hsn,Int.mul_comm]
   refine ww ?_
   refine wwc hva ?_
   refine ww ?_
   refine qAp (qAc (arrIdx_ok hT rfl rfl rfl rfl htm hix)) rfl rfl ?_
   refine ww ?_
   exact ⟨i+1,by omega,by omega,⟨.refl _,.int hww,.int hwr,trivial⟩,HLe.refl _⟩
  ·have h2':i=s.length:=by simp at h2;omega
   subst h2'
   rw [List.take_length] at hdr ⊢
   have hm:Int.tmod (digSum 0 s) 10=digSum 0 s % 10:=Int.tmod_eq_emod_of_nonneg hdr.1
   have hm1:=Int.emod_nonneg (digSum 0 s) (b:=10) (by omega)
   have hm2:=Int.emod_lt_of_pos (digSum 0 s) (b:=10) (by omega)
   have hww:IntKind.u8.wrap (IntKind.i64.wrap (48+Int.tmod (digSum 0 s) 10))=48+digSum 0 s % 10:=by rw [hm,qAe (by omega),wrapu8 (by omega)]
   refine ww ?_
   refine qCa hT rfl rfl (fun e he=>⟨_,List.mem_singleton.1 he⟩) ?_
   refine ww ?_
   refine rq ⟨rfl,rfl⟩ rfl (AV.le.tup ⟨.str ?_,.refl _,trivial⟩)
   show [UInt8.ofNat (IntKind.u8.wrap (IntKind.i64.wrap (48+Int.tmod (digSum 0 s) 10))).toNat]=digitS s
   rw [hww];rfl
theorem nameL_cons (b:Bool) (c:UInt8) (l:List UInt8):nameL b (c::l)=(if c=32 then !b&&!l.isEmpty&&nameL true l else decide (65≤bI c∧bI c≤90)&&nameL false l):=rfl
theorem name_step {s:List UInt8} {i:Nat} (h:i < s.length) (hs:s.length≤1000000):nameL (decide (i=0)||decide (s[i-1]?=some 32)) (s.drop i) =
  (!((strAt s (i:Int) == 32&&((i:Int) == 0||(i:Int) == IntKind.i64.wrap ((s.length:Int)-1)||strAt s (IntKind.i64.wrap ((i:Int)-1)) == 32))||strAt s (i:Int) != 32&&(decide (strAt s (i:Int) < 65)||decide (strAt s (i:Int) > 90))) &&
   nameL (decide (i+1=0)||decide (s[i+1-1]?=some 32)) (s.drop (i+1))):=by
 have hsa:=qCp h
 have hsi:s[i+1-1]?=some s[i]:=by simp [h]
 have hwl:IntKind.i64.wrap ((s.length:Int)-1)=((s.length-1:Nat):Int):=by rw [qAe (by omega)];omega
 have hp:i≠0→(strAt s (IntKind.i64.wrap ((i:Int)-1)) == 32)=decide (s[i-1]?=some 32):=fun h0=>by
  rw [qAe (by omega),show (i:Int)-1=((i-1:Nat):Int) by omega,qCp (by omega),List.getElem?_eq_getElem (by omega:i-1 < s.length)]
  generalize s[i-1]'(by omega)=c
  have hc:bI c=32↔c=32:=byte_eq (c:=c) (d:=32)
  by_cases h1:c=32
  ·simp [h1];rfl
  ·have:=mt hc.1 h1
   simp [h1,this]
 have he:(s.drop (i+1)).isEmpty=((i:Int) == ((s.length-1:Nat):Int)):=by
  by_cases h1:i+1=s.length
  ·rw [show i=s.length-1 by omega];simp;omega
  ·have h2:¬ (i:Int)=((s.length-1:Nat):Int):=by omega
   have h3:s.drop (i+1)≠[]:=fun hh=>by have:=congrArg List.length hh;simp at this;omega
   rw [beq_eq_false_iff_ne.2 h2]
   cases hd:s.drop (i+1) with
   | nil=>exact absurd hd h3
   | cons a l=>rfl
 have hi0:((i:Int) == 0)=decide (i=0):=by
  by_cases h1:i=0
  ·simp [h1]
  ·simp [h1]
 rw [drop_cons h,nameL_cons,hwl,hsa,hsi,hi0,← he]
 generalize s[i]=c at *
 have hc:bI c=32↔c=32:=byte_eq (c:=c) (d:=32)
 have hn0:decide (i+1=0)=false:=by simp
 rw [hn0,Bool.false_or]
 by_cases h1:c=32
 ·rw [if_pos h1]
  have h32:bI c=32:=hc.2 h1
  subst h1
  by_cases h0:i=0
  ·simp [h32,h0]
  ·rw [hp h0,h32]
   have hd:decide (i=0)=false:=decide_eq_false h0
   rw [hd]
   generalize decide (s[i-1]?=some 32)=x
   generalize (s.drop (i+1)).isEmpty=y
   simp
   generalize nameL true (s.drop (i+1))=z
   revert x y z
   decide
 ·rw [if_neg h1]
  have h32:¬ bI c=32:=mt hc.1 h1
  have h2:decide (some c=some (32:UInt8))=false:=by simp [h1]
  rw [h2]
  have h3:(bI c == 32)=false:=by simpa using h32
  have h4:(bI c != 32)=true:=by simpa using h32
  rw [h3,h4]
  simp only [Bool.false_and,Bool.false_or,Bool.true_and]
  congr 1
  by_cases g1:65≤bI c <;> by_cases g2:bI c≤90 <;> simp [g1,g2] <;> omega
theorem Name_spec (s:List UInt8) (hs:s.length≤1000000):Spec Tryz.prog 167 [.d (.str s)] [] (fun r h'=>r=.d (.bool (nameL true s))∧h'=[]):=by
 generalize hfin:nameL true s=fin
 refine qAb hT Tryz.func167 rfl rfl rfl rfl ?_;intro E hE
 refine ww ?_
 refine qAq (ι:=Nat) (fun i=>[(0,.d (.str s)),(3,.d (.int .i64 (i:Int)))]) (fun _=>[]) (fun i=>i≤s.length∧nameL (decide (i=0)||decide (s[i-1]?=some 32)) (s.drop i)=fin) (fun i=>s.length-i) 0 ⟨by omega,by simpa using hfin⟩ ⟨.refl _,.refl _,trivial⟩ (HLe.refl _) ?_
 rintro i ⟨hi,hg⟩
 have hwr:IntKind.i64.wrap ((i:Int)+1)=((i+1:Nat):Int):=by rw [qAe (by omega)];simp
 refine ww ?_
 refine qAa rfl (fun h1=>?_) (fun h1=>?_)
 ·have h1':i < s.length:=by simpa using h1
  have hst:=name_step h1' hs
  have hwi:i≠0→IntKind.i64.wrap ((i:Int)-1)=((i-1:Nat):Int):=fun h=>by rw [qAe (by omega)];omega
  rw [hst] at hg
  refine ww ?_
  refine qAa rfl (fun h2=>?_) (fun h2=>?_)
  ·rw [h2] at hg
   subst hg
   refine ww ?_
   exact wwr
  ·rw [h2,Bool.not_false,Bool.true_and] at hg
   refine ww ?_
   exact ⟨i+1,⟨by omega,hg⟩,by omega,⟨.refl _,.int hwr,trivial⟩,HLe.refl _⟩
 ·have h1':i=s.length:=by simp at h1;omega
  subst h1'
  rw [List.drop_length,nameL] at hg
  subst hg
  refine ww ?_
  exact wwr
end Tdoc
namespace Tdoc
open Go Go.Proofs
theorem qDq (s:List UInt8):(fillS s).length=s.length:=by simp [fillS]
theorem byteAV_at {s:List UInt8} {i:Nat} (h:i < s.length):(byteAV s)[i]?=some (.d (.int .u8 (bI s[i]))):=by simp [byteAV,bI,h]
theorem byteAV_set (a:List UInt8) (c x:UInt8) (b:List UInt8):(byteAV (a++c::b)).set a.length (.d (.int .u8 (bI x)))=byteAV (a++x::b):=by
 simp [byteAV,bI]
theorem fill_spec (s:List UInt8) (hs:s.length≤1000000):Spec Tryz.prog 173 [.d (.str s)] [] (fun r h'=>r=.d (.str (fillS s))∧h'=[]):=by
 refine qAb hT Tryz.func173 rfl rfl rfl rfl ?_;intro E hE
 refine qAo ?_
 refine qAu (qAn ?_)
 refine wws ?_
 refine qAu (qAn ?_)
 refine wws ?_
 refine AWk_opR (strRow_ok (i0:=0) hT rfl rfl rfl rfl) rfl ?_
 rintro u k ⟨cap,hcap,rfl,rfl⟩
 refine ww ?_
 refine qAq (ι:=Nat) (fun i=>[(3,.row 0 0 s.length cap),(4,.d (.int .i64 (i:Int)))]) (fun i=>[.row (byteAV (fillS (s.take i)++s.drop i))]) (fun i=>i≤s.length) (fun i=>s.length-i) 0 (by omega) ⟨.refl _,.refl _,trivial⟩ (HLe.refl _) ?_
 rintro i hi
 have hwr:IntKind.i64.wrap ((i:Int)+1)=((i+1:Nat):Int):=by rw [qAe (by omega)];simp
 refine ww ?_
 refine qAa rfl (fun h1=>?_) (fun h1=>?_)
 ·have h1':i < s.length:=by simpa using h1
  have hdr:=drop_cons h1'
  have htk:s.take (i+1)=s.take i++[s[i]]:=List.take_succ_eq_append_getElem h1'
  have hfl:fillS (s.take (i+1))=fillS (s.take i)++[if s[i]=32 then 60 else s[i]]:=by rw [htk];unfold fillS;rw [List.map_append];rfl
  have hl:(fillS (s.take i)).length=i:=by rw [qDq,List.length_take];omega
  have hsl:(fillS (s.take i)++s.drop i).length=s.length:=by rw [List.length_append,hl,List.length_drop];omega
  have hat:(byteAV (fillS (s.take i)++s.drop i))[0+((i:Int)).toNat*1]?=some (.d (.int .u8 (bI s[i]))):=by
   rw [Int.toNat_natCast,Nat.mul_one,Nat.zero_add,byteAV_at (by rw [hsl];exact h1')]
   rw [List.getElem_append_right (by omega)]
   simp [hl]
  have hset:∀ x:UInt8,(byteAV (fillS (s.take i)++s.drop i)).set i (.d (.int .u8 (bI x)))=byteAV (fillS (s.take i)++x::s.drop (i+1)):=fun x=>by
   have:=byteAV_set (fillS (s.take i)) s[i] x (s.drop (i+1))
   rw [hl] at this
   rw [hdr];exact this
  have hbl:=qBy (fillS (s.take i)++s.drop i)
  rw [hsl] at hbl
  have hc:bI s[i]=32↔s[i]=32:=byte_eq (c:=s[i]) (d:=32)
  have hself:byteAV (fillS (s.take i)++s.drop i)=byteAV (fillS (s.take i)++s[i]::s.drop (i+1)):=by rw [hdr]
  generalize s[i]=c at hfl hat hc hself
  generalize byteAV (fillS (s.take i)++s.drop i)=row at hat hset hbl hself
  refine ww ?_
  refine qAd (qAc (rowAddr_ok (sz:=1) hT rfl rfl rfl rfl ⟨by omega,by omega⟩)) rfl ?_
  refine qAd (qBd hT rfl rfl rfl rfl rfl hat) rfl ?_
  refine ww ?_
  refine qAa rfl (fun h2=>?_) (fun h2=>?_)
  ·have h2':c=32:=by simp at h2;exact hc.1 h2
   rw [if_pos h2'] at hfl
   refine ww ?_
   refine qAd (qAc (rowAddr_ok (sz:=1) hT rfl rfl rfl rfl ⟨by omega,by omega⟩)) rfl ?_
   refine AWk_op0 (store1_ok hT rfl rfl rfl rfl rfl rfl (by rw [hbl];simp;omega)) rfl ?_
   refine ww ?_
   refine ⟨i+1,by omega,by omega,⟨.refl _,.int hwr,trivial⟩,⟨ObLe.row ?_,trivial⟩⟩
   rw [hfl,List.append_assoc]
   refine Eq.trans ?_ (hset 60)
   rw [show 0+((i:Int)).toNat*1=i by simp];rfl
  ·have h2':¬ c=32:=fun hh=>by have:=hc.2 hh;simp [this] at h2
   rw [if_neg h2'] at hfl
   refine ww ?_
   refine ⟨i+1,by omega,by omega,⟨.refl _,.int hwr,trivial⟩,⟨ObLe.row ?_,trivial⟩⟩
   rw [hfl,List.append_assoc]
   exact hself
 ·have h1':i=s.length:=by simp at h1;omega
  subst h1'
  rw [List.take_length,List.drop_length,List.append_nil]
  refine ww ?_
  refine qAd (rowStr_ok (s:=fillS s) hT rfl rfl rfl rfl (qDq s) (fun j c hj=>?_)) rfl ?_
  ·have hjl:=(List.getElem?_eq_some_iff.1 hj).1
   rw [Nat.zero_add,byteAV_at hjl]
   rw [List.getElem?_eq_getElem hjl] at hj
   cases hj;rfl
  refine ww ?_
  exact wwr
theorem wideS_self {s:List UInt8} {n:Nat} (h:n≤s.length):wideS s n=s:=by simp [wideS,Nat.sub_eq_zero_of_le h]
theorem wideS_one {s:List UInt8} {n:Nat} (h:s.length < n):wideS (s++[60]) n=wideS s n:=by
 unfold wideS
 rw [List.append_assoc,List.length_append,List.length_singleton,show n-s.length=(n-(s.length+1))+1 by omega,List.replicate_succ];rfl
theorem Wide_spec (s:List UInt8) (w:Nat) (hs:s.length≤1000000) (hw:w≤1000000):Spec Tryz.prog 101 [.d (.str s),.d (.int .i64 (w:Int))] [] (fun r h'=>r=.d (.str (wideS s w))∧h'=[]):=by
 generalize hfin:wideS s w=fin
 refine qAb hT Tryz.func101 rfl rfl rfl rfl ?_;intro E hE
 refine ww ?_
 refine qAq (ι:=List UInt8) (fun t=>[(0,.d (.str t)),(1,.d (.int .i64 (w:Int)))]) (fun _=>[]) (fun t=>t.length≤2000000∧wideS t w=fin) (fun t=>w-t.length) s ⟨by omega,hfin⟩ ⟨.refl _,.refl _,trivial⟩ (HLe.refl _) ?_
 rintro t ⟨hl,hg⟩
 refine ww ?_
 refine qAa rfl (fun h1=>?_) (fun h1=>?_)
 ·have h1':t.length < w:=by simpa using h1
  refine ww ?_
  exact ⟨t++[60],⟨by simp only [List.length_append,List.length_singleton];omega,by rw [wideS_one h1'];exact hg⟩,by simp only [List.length_append,List.length_singleton];omega,⟨.refl _,.refl _,trivial⟩,HLe.refl _⟩
 ·have h1':w≤t.length:=by simp at h1;omega
  rw [wideS_self h1'] at hg
  subst hg
  refine ww ?_
  exact wwr
theorem wide_any (s:List UInt8) (w:Int) (h1:0≤w) (hs:s.length≤1000000) (hw:w≤1000000):Spec Tryz.prog 101 [.d (.str s),.d (.int .i64 w)] [] (fun r h'=>r=.d (.str (wideS s w.toNat))∧h'=[]):=by
 obtain ⟨n,rfl⟩:=Int.eq_ofNat_of_zero_le h1
 exact Wide_spec s n hs (by omega)
theorem Names_spec (sur giv:List UInt8) (w:Int) (h1:sur.length≤10000) (h2:giv.length≤10000):Spec Tryz.prog 104 [.d (.str sur),.d (.str giv),.d (.int .i64 w)] [] (fun r h'=>r=.tup [.d (.str (namesF sur giv w).1),.d (.int .i64 (namesF sur giv w).2)]∧h'=[]):=by
 have hn1:=Name_spec sur (by omega)
 have hn2:=Name_spec giv (by omega)
 have hf1:=fill_spec sur (by omega)
 have hf2:=fill_spec giv (by omega)
 have hl1:=qDq sur
 have hl2:=qDq giv
 unfold namesF namesS
 generalize nameL true sur=n1 at hn1
 generalize nameL true giv=n2 at hn2
 generalize fillS sur=f1 at hf1 hl1
 generalize fillS giv=f2 at hf2 hl2
 refine qAb hT Tryz.func104 rfl rfl rfl rfl ?_;intro E hE
 refine ww ?_
 refine wwc hn1 ?_
 refine ww ?_
 refine wwgc hn2 ?_
 refine ww ?_
 refine qAa rfl (fun h3=>?_) (fun h3=>?_)
 ·have h3':n1=false∨n2=false∨sur=[]:=by
   cases n1 <;> cases n2 <;> simp_all
  rw [if_pos h3']
  refine ww ?_
  exact wwr
 ·have h3':¬ (n1=false∨n2=false∨sur=[]):=by
   cases n1 <;> cases n2 <;> simp_all
  rw [if_neg h3']
  refine ww ?_
  refine qAa rfl (fun h4=>?_) (fun h4=>?_)
  ·have h4':w < 1∨w > 64:=by simpa using h4
   rw [if_pos h4']
   refine ww ?_
   exact wwr
  ·have h4':¬ (w < 1∨w > 64):=by simpa using h4
   rw [if_neg h4']
   refine ww ?_
   refine wwc hf1 ?_
   refine wws ?_
   refine qBa (ι:=Unit) (fun _=>[(0,.d (.str sur)),(1,.d (.str giv)),(2,.d (.int .i64 w)),(8,.d (.str (f1++(if giv=[] then [] else [60,60]++f2))))]) (fun _=>[]) (fun _=>True) ?_ (fun _ _=>?_)
   ·refine ww ?_
    refine qAa rfl (fun h5=>?_) (fun h5=>?_)
    ·have h5':¬ giv=[]:=by simpa using h5
     rw [if_neg h5']
     refine ww ?_
     refine wwc hf2 ?_
     refine ww ?_
     exact ⟨(),trivial,⟨.refl _,.refl _,.refl _,.refl _,trivial⟩,HLe.refl _⟩
    ·have h5':giv=[]:=by simpa using h5
     rw [if_pos h5',List.append_nil]
     refine ww ?_
     exact ⟨(),trivial,⟨.refl _,.refl _,.refl _,.refl _,trivial⟩,HLe.refl _⟩
   ·have hnl:(f1++(if giv=[] then [] else [60,60]++f2)).length≤30000:=by
     rw [List.length_append];split <;> simp <;> omega
    generalize f1++(if giv=[] then [] else [60,60]++f2)=t at hnl
    have hwd:=wide_any t w (by omega) (by omega) (by omega)
    have hwl:=qAt t w.toNat
    generalize wideS t w.toNat=u at hwd hwl
    refine ww ?_
    refine wwc hwd ?_
    refine ww ?_
    exact wwr
end Tdoc
namespace Tdoc
open Go Go.Proofs
theorem leap_spec (y:Int):Spec Tryz.prog 238 [.d (.int .i64 y)] [] (fun r h'=>r=.d (.bool (leapR y))∧h'=[]):=by
 unfold leapR
 refine qAb hT Tryz.func238 rfl rfl rfl rfl ?_;intro E hE
 refine ww ?_
 refine rq ⟨rfl,rfl⟩ rfl (.bool ?_)
 by_cases h1:y.tmod 4=0 <;> by_cases h2:y=1900 <;> simp [h1,h2]
theorem longM_spec (y m:Int):Spec Tryz.prog 182 [.d (.int .i64 y),.d (.int .i64 m)] [] (fun r h'=>r=.d (.int .i64 (longR y m))∧h'=[]):=by
 have hl:=leap_spec y
 unfold longR
 generalize leapR y=lp at hl
 refine qAb hT Tryz.func182 rfl rfl rfl rfl ?_;intro E hE
 refine qAu (qAn ?_)
 refine wws ?_
 refine qAu (qAu (qAn ?_))
 refine wws ?_
 refine AW_block ?_
 refine qBa (ι:=Unit) (fun _=>[(0,.d (.int .i64 y)),(1,.d (.int .i64 m)),(5,.d (.int .i64 m)),(6,.d (.bool (decide (m=4∨m=6∨m=9∨m=11))))]) (fun _=>[]) (fun _=>True) ?_ (fun _ _=>?_)
 ·refine ww ?_
  refine qAa rfl (fun a1=>?_) (fun a1=>?_)
  ·refine ww ?_
   exact ⟨(),trivial,⟨.refl _,.refl _,.refl _,.bool (by simp at a1;simp [a1]),trivial⟩,HLe.refl _⟩
  ·refine ww ?_
   refine qAa rfl (fun a2=>?_) (fun a2=>?_)
   ·refine ww ?_
    exact ⟨(),trivial,⟨.refl _,.refl _,.refl _,.bool (by simp at a2;simp [a2]),trivial⟩,HLe.refl _⟩
   ·refine ww ?_
    refine qAa rfl (fun a3=>?_) (fun a3=>?_)
    ·refine ww ?_
     exact ⟨(),trivial,⟨.refl _,.refl _,.refl _,.bool (by simp at a3;simp [a3]),trivial⟩,HLe.refl _⟩
    ·refine ww ?_
     exact ⟨(),trivial,⟨.refl _,.refl _,.refl _,.bool (by simp at a1 a2 a3;by_cases h:m=11 <;> simp [h,a1,a2,a3]),trivial⟩,HLe.refl _⟩
 ·refine ww ?_
  refine qAa rfl (fun a1=>?_) (fun a1=>?_)
  ·have a1':m=4∨m=6∨m=9∨m=11:=of_decide_eq_true a1
   rw [if_pos a1']
   refine ww ?_
   exact wwr
  ·have a1':¬ (m=4∨m=6∨m=9∨m=11):=of_decide_eq_false a1
   rw [if_neg a1']
   refine ww ?_
   refine qAa rfl (fun a2=>?_) (fun a2=>?_)
   ·have a2':m=2:=by simpa using a2
    rw [if_pos a2']
    refine ww ?_
    refine wwc hl ?_
    refine ww ?_
    refine qAa rfl (fun a3=>?_) (fun a3=>?_)
    ·rw [if_pos a3]
     refine ww ?_
     exact wwr
    ·rw [if_neg (by simp [a3])]
     refine ww ?_
     exact wwr
   ·have a2':¬ m=2:=by simpa using a2
    rw [if_neg a2']
    refine ww ?_
    exact wwr
theorem ValidD_spec (d:Int):Spec Tryz.prog 181 [.d (.int .i64 d)] [] (fun r h'=>r=.d (.bool (decide (0≤d∧d≤73048)))∧h'=[]):=by
 refine qAb hT Tryz.func181 rfl rfl rfl rfl ?_;intro E hE
 refine ww ?_
 refine rq ⟨rfl,rfl⟩ rfl (.bool ?_)
 by_cases h1:0≤d <;> by_cases h2:d≤73048 <;> simp [h1,h2]
theorem Of_spec (y m d:Int):Spec Tryz.prog 233 [.d (.int .i64 y),.d (.int .i64 m),.d (.int .i64 d)] [] (fun r h'=>r=.tup [.d (.int .i64 (ofF y m d).1),.d (.int .i64 (ofF y m d).2)]∧h'=[]):=by
 have hlg:=longM_spec y m
 unfold ofF
 have hlr:=qCi y m
 generalize hlm:longR y m=lm at hlg hlr
 refine qAb hT Tryz.func233 rfl rfl rfl rfl ?_;intro E hE
 refine ww ?_
 refine wwgc hlg ?_
 refine ww ?_
 refine qAa rfl (fun c1=>?_) (fun c1=>?_)
 ·have c1':y < 1900∨y > 2099∨m < 1∨m > 12∨d < 1∨d > lm:=by simp at c1;omega
  rw [if_pos c1']
  refine ww ?_
  exact wwr
 ·have c1':¬ (y < 1900∨y > 2099∨m < 1∨m > 12∨d < 1∨d > lm):=by simp at c1;omega
  rw [if_neg c1']
  obtain ⟨yn,rfl⟩:∃ yn:Nat,y=1900+(yn:Int):=⟨(y-1900).toNat,by omega⟩
  obtain ⟨mn,rfl⟩:∃ mn:Nat,m=(mn:Int)+1:=⟨(m-1).toNat,by omega⟩
  rw [show (1900+(yn:Int)-1900).toNat=yn by omega,show ((mn:Int)+1-1).toNat=mn by omega]
  have hwd:IntKind.i64.wrap (d-1)=d-1:=qAe (by omega)
  refine wwe ?_
  refine qAu (qAn ?_)
  refine wws ?_
  refine qAu ?_
  refine ww ?_
  refine qAq (ι:=Nat) (fun k=>[(0,.d (.int .i64 (1900+(yn:Int)))),(1,.d (.int .i64 ((mn:Int)+1))),(8,.d (.int .i64 (d-1+yearsR k))),(9,.d (.int .i64 (1900+(k:Int))))]) (fun _=>[]) (fun k=>k≤yn) (fun k=>yn-k) 0 (by omega) ⟨.refl _,.refl _,.int (by rw [hwd];simp [yearsR]),.refl _,trivial⟩ (HLe.refl _) ?_
  intro k hk
  have hyr:=yearsR_range k
  have hlp:=leap_spec (1900+(k:Int))
  have hw1:IntKind.i64.wrap (1900+(k:Int)+1)=1900+((k+1:Nat):Int):=by rw [qAe (by omega)];omega
  have hw2:IntKind.i64.wrap (d-1+yearsR k+365)=d-1+yearsR k+365:=qAe (by omega)
  have hw3:IntKind.i64.wrap (IntKind.i64.wrap (d-1+yearsR k+365)+1)=d-1+yearsR k+365+1:=by rw [hw2,qAe (by omega)]
  have hys:yearsR (k+1)=yearsR k+365+(if leapR (1900+(k:Int))=true then 1 else 0):=rfl
  generalize leapR (1900+(k:Int))=lp at hlp hys
  refine ww ?_
  refine qAa rfl (fun c2=>?_) (fun c2=>?_)
  ·have c2':k < yn:=by simp at c2;omega
   refine ww ?_
   refine wwc hlp ?_
   refine ww ?_
   refine qAa rfl (fun c3=>?_) (fun c3=>?_)
   ·rw [if_pos c3] at hys
    refine ww ?_
    exact ⟨k+1,by omega,by omega,⟨.refl _,.refl _,.int (by rw [hw3,hys];omega),.int hw1,trivial⟩,HLe.refl _⟩
   ·rw [if_neg (by simp [c3])] at hys
    refine ww ?_
    exact ⟨k+1,by omega,by omega,⟨.refl _,.refl _,.int (by rw [hw2,hys];omega),.int hw1,trivial⟩,HLe.refl _⟩
  ·have c2':k=yn:=by simp at c2;omega
   subst c2'
   refine wwe ?_
   refine qAu ?_
   refine ww ?_
   refine qAq (ι:=Nat) (fun i=>[(0,.d (.int .i64 (1900+(k:Int)))),(1,.d (.int .i64 ((mn:Int)+1))),(8,.d (.int .i64 (d-1+yearsR k+monthsR (1900+(k:Int)) i))),(10,.d (.int .i64 ((i:Int)+1)))]) (fun _=>[]) (fun i=>i≤mn) (fun i=>mn-i) 0 (by omega) ⟨.refl _,.refl _,.int (by simp [monthsR]),.refl _,trivial⟩ (HLe.refl _) ?_
   intro i hi
   have hmr:=monthsR_range (1900+(k:Int)) i
   have hlg:=longM_spec (1900+(k:Int)) ((i:Int)+1)
   have hlr2:=qCi (1900+(k:Int)) ((i:Int)+1)
   have hms:monthsR (1900+(k:Int)) (i+1)=monthsR (1900+(k:Int)) i+longR (1900+(k:Int)) ((i:Int)+1):=rfl
   generalize longR (1900+(k:Int)) ((i:Int)+1)=lg at hlg hlr2 hms
   have hw4:IntKind.i64.wrap ((i:Int)+1+1)=((i+1:Nat):Int)+1:=by rw [qAe (by omega)];omega
   have hw5:IntKind.i64.wrap (d-1+yearsR k+monthsR (1900+(k:Int)) i+lg)=d-1+yearsR k+monthsR (1900+(k:Int)) (i+1):=by rw [qAe (by omega),hms];omega
   refine ww ?_
   refine qAa rfl (fun c4=>?_) (fun c4=>?_)
   ·have c4':i < mn:=by simp at c4;omega
    refine ww ?_
    refine wwc hlg ?_
    refine ww ?_
    exact ⟨i+1,by omega,by omega,⟨.refl _,.refl _,.int hw5,.int hw4,trivial⟩,HLe.refl _⟩
   ·have c4':i=mn:=by simp at c4;omega
    subst c4'
    refine ww ?_
    exact wwr
theorem yearsR_mono {a b:Nat} (h:a≤b):yearsR a≤yearsR b:=by
 induction h with
 | refl=>exact Int.le_refl _
 | step h ih=>rw [yearsR];split <;> omega
theorem monthsR_mono (y:Int) {a b:Nat} (h:a≤b):monthsR y a≤monthsR y b:=by
 induction h with
 | refl=>exact Int.le_refl _
 | @step c h ih=>have:=qCi y ((c:Int)+1);rw [monthsR];omega
theorem monthsR_year (y:Int):monthsR y 12=365+(if leapR y=true then 1 else 0):=by
 simp only [monthsR,longR]
 cases leapR y <;> simp
theorem years100:yearsR 100=36524:=by decide +kernel
theorem years200:yearsR 200=73049:=by decide +kernel
def PartsP (day:Int) (x:Int×Int×Int):Prop:=1900≤x.1∧x.1≤2099∧1≤x.2.1∧x.2.1≤12∧1≤x.2.2∧x.2.2≤longR x.1 x.2.1∧(36524≤day→2000≤x.1)
theorem Parts_spec (day:Int) (h0:0≤day∧day≤73048):Spec Tryz.prog 117 [.d (.int .i64 day)] [] (fun r h'=>∃ x,PartsP day x∧r=.tup [.d (.int .i64 x.1),.d (.int .i64 x.2.1),.d (.int .i64 x.2.2),.d (.int .i64 0)]∧h'=[]):=by
 have hv:=ValidD_spec day
 rw [decide_eq_true h0] at hv
 refine qAb hT Tryz.func117 rfl rfl rfl rfl ?_;intro E hE
 refine ww ?_
 refine wwc hv ?_
 refine ww ?_
 refine qAa rfl (fun c1=>?_) (fun c1=>?_)
 ·exact absurd c1 (by simp)
 refine ww ?_
 refine qAq (ι:=Nat×Nat×Int) (fun x=>[(0,.d (.int .i64 x.2.2)),(6,.d (.int .i64 (1900+(x.1:Int)))),(7,.d (.int .i64 ((x.2.1:Int)+1)))]) (fun _=>[]) (fun x=>0≤x.2.2∧x.2.1≤11∧day=yearsR x.1+monthsR (1900+(x.1:Int)) x.2.1+x.2.2) (fun x=>x.2.2.toNat) (0,0,day) ⟨by simp only;omega,by simp,by simp [yearsR,monthsR]⟩ ⟨.refl _,.refl _,.refl _,trivial⟩ (HLe.refl _) ?_
 rintro ⟨yk,mk,rest⟩ ⟨g1,g2,g3⟩
 simp only at g1 g2 g3 ⊢
 have hmr:=monthsR_range (1900+(yk:Int)) mk
 have hyk:yk≤199:=by
  by_cases h:200≤yk
  ·have:=yearsR_mono h;rw [years200] at this;omega
  ·omega
 have hyr:=yearsR_range yk
 have hlg:=longM_spec (1900+(yk:Int)) ((mk:Int)+1)
 have hlr:=qCi (1900+(yk:Int)) ((mk:Int)+1)
 have hms:monthsR (1900+(yk:Int)) (mk+1)=monthsR (1900+(yk:Int)) mk+longR (1900+(yk:Int)) ((mk:Int)+1):=rfl
 have hend:rest < longR (1900+(yk:Int)) ((mk:Int)+1)→PartsP day (1900+(yk:Int),(mk:Int)+1,rest+1):=fun h=>by
  refine ⟨by simp only;omega,by simp only;omega,by simp only;omega,by simp only;omega,by simp only;omega,by simp only;omega,fun hd=>?_⟩
  simp only
  by_cases h9:100≤yk
  ·omega
  ·exfalso
   have m1:=monthsR_mono (1900+(yk:Int)) (show mk+1≤12 by omega)
   have m2:=yearsR_mono (show yk+1≤100 by omega)
   have m3:=monthsR_year (1900+(yk:Int))
   rw [years100,yearsR] at m2
   omega
 generalize longR (1900+(yk:Int)) ((mk:Int)+1)=lg at hlg hlr hms hend
 have hw1:IntKind.i64.wrap (rest-lg)=rest-lg:=qAe (by omega)
 have hw2:IntKind.i64.wrap ((mk:Int)+1+1)=((mk+1:Nat):Int)+1:=by rw [qAe (by omega)];omega
 have hw3:IntKind.i64.wrap (1900+(yk:Int)+1)=1900+((yk+1:Nat):Int):=by rw [qAe (by omega)];omega
 have hw4:IntKind.i64.wrap (rest+1)=rest+1:=qAe (by omega)
 refine ww ?_
 refine wwc hlg ?_
 refine ww ?_
 refine qAa rfl (fun c2=>?_) (fun c2=>?_)
 ·have c2':rest < lg:=by simpa using c2
  refine ww ?_
  exact rq ⟨_,hend c2',rfl,rfl⟩ rfl (AV.le.tup ⟨.refl _,.refl _,.int hw4,.refl _,trivial⟩)
 ·have c2':¬ rest < lg:=by simpa using c2
  refine ww ?_
  refine qAa rfl (fun c3=>?_) (fun c3=>?_)
  ·have c3':mk=11:=by rw [hw2] at c3;simp at c3;omega
   subst c3'
   refine ww ?_
   have m3:=monthsR_year (1900+(yk:Int))
   refine ⟨(yk+1,0,rest-lg),⟨by simp only;omega,by simp,?_⟩,by simp only;omega,⟨.int hw1,.int hw3,.refl _,trivial⟩,HLe.refl _⟩
   have hms2:monthsR (1900+(yk:Int)) 12=monthsR (1900+(yk:Int)) 11+lg:=hms
   show day=yearsR yk+365+(if leapR (1900+(yk:Int))=true then 1 else 0)+0+(rest-lg)
   generalize (if leapR (1900+(yk:Int))=true then (1:Int) else 0)=z at m3
   omega
  ·have c3':mk < 11:=by rw [hw2] at c3;simp at c3;omega
   refine ww ?_
   exact ⟨(yk,mk+1,rest-lg),⟨by simp only;omega,by simp only;omega,by simp only;omega⟩,by simp only;omega,⟨.int hw1,.refl _,.int hw2,trivial⟩,HLe.refl _⟩
def twoS (n:Int):List UInt8:=[UInt8.ofNat (48+n / 10).toNat,UInt8.ofNat (48+n % 10).toNat]
theorem two_spec (n:Int) (h0:0≤n∧n≤99):Spec Tryz.prog 118 [.d (.int .i64 n)] [] (fun r h'=>r=.d (.str (twoS n))∧h'=[]):=by
 have h1:n.tdiv 10=n / 10:=Int.tdiv_eq_ediv_of_nonneg h0.1
 have h2:n.tmod 10=n % 10:=Int.tmod_eq_emod_of_nonneg h0.1
 have w1:IntKind.u8.wrap (IntKind.i64.wrap (48+IntKind.i64.wrap (n.tdiv 10)))=48+n / 10:=by rw [h1,qAe (n:=n / 10) (by omega),qAe (by omega),wrapu8 (by omega)]
 have w2:IntKind.u8.wrap (IntKind.i64.wrap (48+n.tmod 10))=48+n % 10:=by rw [h2,qAe (by omega),wrapu8 (by omega)]
 refine qAb hT Tryz.func118 rfl rfl rfl rfl ?_;intro E hE
 refine ww ?_
 refine qCa hT rfl rfl (fun e he=>by simp at he;rcases he with rfl | rfl <;> exact ⟨_,rfl⟩) ?_
 refine ww ?_
 refine rq ⟨rfl,rfl⟩ rfl (.str ?_)
 show [UInt8.ofNat (IntKind.u8.wrap (IntKind.i64.wrap (48+IntKind.i64.wrap (n.tdiv 10)))).toNat,UInt8.ofNat (IntKind.u8.wrap (IntKind.i64.wrap (48+n.tmod 10))).toNat]=twoS n
 rw [w1,w2];rfl
def FormatP (day:Int) (s:List UInt8):Prop:=∃ x:Int×Int×Int,PartsP day x∧s=twoS (x.1 % 100)++twoS x.2.1++twoS x.2.2
theorem FormatD_spec (day:Int) (h0:0≤day∧day≤73048):Spec Tryz.prog 62 [.d (.int .i64 day)] [] (fun r h'=>∃ s,FormatP day s∧r=.tup [.d (.str s),.d (.int .i64 0)]∧h'=[]):=by
 have hp:=Parts_spec day h0
 refine qAb hT Tryz.func62 rfl rfl rfl rfl ?_;intro E hE
 refine ww ?_
 refine wwx hp ?_
 rintro ⟨y,m,d⟩ hx
 have hx':=hx
 obtain ⟨g1,g2,g3,g4,g5,g6,g7⟩:=hx
 simp only at g1 g2 g3 g4 g5 g6 g7 ⊢
 have hlr:=qCi y m
 have hm:y.tmod 100=y % 100:=Int.tmod_eq_emod_of_nonneg (by omega)
 have h1:=two_spec (y % 100) (by omega)
 rw [← hm] at h1
 have h2:=two_spec m (by omega)
 have h3:=two_spec d (by omega)
 have l1:(twoS (y.tmod 100)).length=2:=rfl
 have l2:(twoS m).length=2:=rfl
 have l3:(twoS d).length=2:=rfl
 have hfin:FormatP day (twoS (y.tmod 100)++twoS m++twoS d):=⟨(y,m,d),hx',by rw [hm]⟩
 generalize twoS (y.tmod 100)=s1 at *
 generalize twoS m=s2 at *
 generalize twoS d=s3 at *
 refine ww ?_
 refine qAa rfl (fun c1=>?_) (fun c1=>?_)
 ·exact absurd c1 (by simp)
 refine ww ?_
 refine wwc h1 ?_
 refine ww ?_
 refine wwc h2 ?_
 refine ww ?_
 refine wwc h3 ?_
 refine ww ?_
 exact rq ⟨_,hfin,rfl,rfl⟩ rfl (.refl _)
end Tdoc
namespace Tdoc
open Go Go.Proofs
end Tdoc
namespace Tdoc
open Go Go.Proofs
theorem decTs_many {l:List Node} (h:l.length≠1):decTs l=([],1):=by
 match l,h with
 | [],_=>rfl
 | [a],h=>exact absurd rfl h
 | a::b::r,_=>rfl
theorem nAV_eq (t:Int) (v:List UInt8) (k:List Node):nAV (.mk t v k)=.agg [.d (.int .i64 t),.d (.sl 1 (encB v)),.d (.sl 3 (encNs k))]:=rfl
def decR (ks:List Node):List Tpl×Int:=match decL ks with
 | none=>([],1)
 | some out=>if (encTR out).2≠0 then ([],(encTR out).2) else (out,0)
theorem decTs_cons {x:Node} (h:consF x 32609 (-1)=false):decTs [x]=([],1):=by unfold decTs;simp only;rw [if_neg (by rw [h];simp)]
theorem decTs_nil {x:Node} (h:kidN x=[]):decTs [x]=([],1):=by unfold decTs;simp only;split;rw [h];rfl
theorem decTs_prim {x y:Node} {ks:List Node} (h:kidN x=y::ks) (h2:primF y 2 1=false):decTs [x]=([],1):=by
 unfold decTs;simp only;split
 ·rw [h];simp only;rw [if_neg (by rw [h2];simp)]
 ·rfl
theorem decTs_go {x y:Node} {ks:List Node} (h0:consF x 32609 (-1)=true) (h:kidN x=y::ks) (n:Int) (hn:((nbN (valN y):Nat):Int)=n) (h2:primF y 2 1=true):decTs [x]=if n=(ks.length:Int) then decR ks else ([],1):=by
 subst hn
 unfold decTs;simp only;rw [if_pos h0,h];simp only
 by_cases h3:((nbN (valN y):Nat):Int)=(ks.length:Int)
 ·rw [if_pos ⟨h2,h3⟩,if_pos h3];rfl
 ·rw [if_neg (fun hh=>h3 hh.2),if_neg h3]
def finT (out:List Tpl):List Tpl×Int:=if (encTR out).2≠0 then ([],(encTR out).2) else (out,0)
def contT (out:List Tpl) (rest:List Node):List Tpl×Int:=match decL rest with
 | none=>([],1)
 | some r=>finT (out++r)
theorem decR_eq (ks:List Node):decR ks=contT [] ks:=by unfold decR contT finT;cases decL ks <;> rfl
theorem contT_nil (out:List Tpl):contT out []=finT out:=by unfold contT decL;simp
theorem contT_none {out:List Tpl} {x:Node} {r:List Node} (h:decT x=none):contT out (x::r)=([],1):=by unfold contT decL;rw [h]
theorem contT_some {out:List Tpl} {x:Node} {r:List Node} {t:Tpl} (h:decT x=some t):contT out (x::r)=contT (out++[t]) r:=by
 unfold contT;rw [decL,h]
 simp only
 cases decL r <;> simp
theorem decT_n1 {x:Node} (h:consF x 32608 2=false):decT x=none:=by unfold decT;rw [if_neg (by rw [h];simp)]
theorem wgt_mem {x:Node}:∀ {l:List Node},x∈l→wgtN x≤wgtL l
 | a::l,h=>by
  rw [wgtL]
  rcases List.mem_cons.1 h with rfl | h
  ·omega
  ·have:=wgt_mem h;omega
end Tdoc
namespace Tdoc
open Go Go.Proofs
theorem idB_length (p:Int):(idB p).length=9:=by unfold idB;split <;> (try split) <;> (try split) <;> (try split) <;> rfl
end Tdoc
namespace Tdoc
open Go Go.Proofs
def pU (v:List UInt8):Nat→Int
 | 0=>0
 | k+1=>if v=idB (2+(k:Int)) then 2+(k:Int) else pU v k
theorem pU_eq (v:List UInt8):pU v 5=protoF v:=by
 have d:idB 2≠idB 3∧idB 2≠idB 4∧idB 2≠idB 5∧idB 2≠idB 6∧idB 3≠idB 4∧idB 3≠idB 5∧idB 3≠idB 6∧idB 4≠idB 5∧idB 4≠idB 6∧idB 5≠idB 6:=by decide
 obtain ⟨d1,d2,d3,d4,d5,d6,d7,d8,d9,d10⟩:=d
 show (if v=idB 6 then (6:Int) else if v=idB 5 then 5 else if v=idB 4 then 4 else if v=idB 3 then 3 else if v=idB 2 then 2 else 0)=protoF v
 unfold protoF
 by_cases h2:v=idB 2
 ·subst h2;simp [d1,d2,d3,d4]
 by_cases h3:v=idB 3
 ·subst h3;simp [d1.symm,d5,d6,d7]
 by_cases h4:v=idB 4
 ·subst h4;simp [d2.symm,d5.symm,d8,d9]
 by_cases h5:v=idB 5
 ·subst h5;simp [d3.symm,d6.symm,d8.symm,d10]
 by_cases h6:v=idB 6
 ·subst h6;simp [d4.symm,d7.symm,d9.symm,d10.symm]
 simp [h2,h3,h4,h5,h6]
def infM (p ver:Int) (r:List Node):Option Inf :=
 if p=0 then none
 else if p=2∨p=3 then match r with
  | [q]=>if primF q 2 1=true then some ⟨p,ver,nbN (valN q),0,0⟩ else none
  | _=>none
 else if p=4 then match r with
  | [k,d]=>if primF k 4 4=true∧primF d 2 1=true then some ⟨4,ver,0,nbN (valN k),nbN (valN d)⟩ else none
  | _=>none
 else match r with
  | []=>some ⟨p,ver,0,0,0⟩
  | _=>none
theorem infX_n1 {x:Node} (h:consF x 48 (-1)=false):infX x=none:=by unfold infX;rw [if_neg (by rw [h];simp)]
theorem infX_n2 {x:Node} (h:(kidN x).length < 2):infX x=none:=by
 unfold infX
 split
 ·match hk:kidN x,h with
  | [],_=>rfl
  | [a],_=>rfl
  | a::b::r,h=>simp at h;omega
 ·rfl
theorem infX_n3 {x i v:Node} {r:List Node} (hk:kidN x=i::v::r) (h:primF i 6 9=false):infX x=none:=by
 unfold infX
 split
 ·rw [hk];simp only;rw [if_neg (by rw [h];simp)]
 ·rfl
theorem infX_n4 {x i v:Node} {r:List Node} (hk:kidN x=i::v::r) (h:primF v 2 1=false):infX x=none:=by
 unfold infX
 split
 ·rw [hk];simp only;rw [if_neg (by rw [h];simp)]
 ·rfl
theorem infX_go {x i v:Node} {r:List Node} (h0:consF x 48 (-1)=true) (hk:kidN x=i::v::r) (h1:primF i 6 9=true) (h2:primF v 2 1=true):infX x=infM (protoF (valN i)) (nbN (valN v)) r:=by
 unfold infX
 rw [if_pos h0,hk]
 simp only
 rw [if_pos ⟨h1,h2⟩]
 rfl
theorem infM_0 (ver:Int) (r:List Node):infM 0 ver r=none:=rfl
theorem infM_2n {p ver:Int} {r:List Node} (h:p=2∨p=3) (hr:r.length≠1):infM p ver r=none:=by
 unfold infM;rw [if_neg (by omega),if_pos h]
 match r,hr with
 | [],_=>rfl
 | [a],h=>exact absurd rfl h
 | _::_::_,_=>rfl
theorem infM_2 {p ver:Int} {q:Node} (h:p=2∨p=3):infM p ver [q]=if primF q 2 1=true then some ⟨p,ver,nbN (valN q),0,0⟩ else none:=by
 unfold infM;rw [if_neg (by omega),if_pos h]
theorem infM_4n {ver:Int} {r:List Node} (hr:r.length≠2):infM 4 ver r=none:=by
 unfold infM;rw [if_neg (by omega),if_neg (by omega),if_pos rfl]
 match r,hr with
 | [],_=>rfl
 | [a],_=>rfl
 | [a,b],h=>exact absurd rfl h
 | _::_::_::_,_=>rfl
theorem infM_4 {ver:Int} {k d:Node}:infM 4 ver [k,d]=if primF k 4 4=true∧primF d 2 1=true then some ⟨4,ver,0,nbN (valN k),nbN (valN d)⟩ else none:=by
 unfold infM;rw [if_neg (by omega),if_neg (by omega),if_pos rfl]
theorem infM_5n {p ver:Int} {r:List Node} (h:p≠0∧p≠2∧p≠3∧p≠4) (hr:r≠[]):infM p ver r=none:=by
 unfold infM;rw [if_neg h.1,if_neg (by omega),if_neg h.2.2.2]
 match r,hr with
 | [],h=>exact absurd rfl h
 | _::_,_=>rfl
theorem infM_5 {p ver:Int} (h:p≠0∧p≠2∧p≠3∧p≠4):infM p ver []=some ⟨p,ver,0,0,0⟩:=by
 unfold infM;rw [if_neg h.1,if_neg (by omega),if_neg h.2.2.2]
def InfP (x:Node) (y:Inf×Bool):Prop:=match infX x with
 | some z=>y=(z,true)
 | none=>y.2=false
theorem InfP.none {x:Node} {y:Inf} (h:infX x=none):InfP x (y,false):=by unfold InfP;rw [h]
theorem InfP.some {x:Node} {y:Inf} (h:infX x=some y):InfP x (y,true):=by unfold InfP;rw [h]
def inf0:Inf:=⟨0,0,0,0,0⟩
end Tdoc
namespace Tdoc
open Go Go.Proofs
theorem detL_ok (n:Int):∀ (l seen:List Det),detL n seen l=0→∀ x∈l,belongsF n x.tag=true∧x.text.length≤99
 | [],_,_,x,hx=>by cases hx
 | a::l,seen,h,x,hx=>by
  rw [detL] at h
  split at h
  ·exact absurd h (by omega)
  split at h
  ·exact absurd h (by omega)
  split at h
  ·exact absurd h (by omega)
  rename_i h1 h2 h3
  rcases List.mem_cons.1 hx with rfl | hx
  ·exact ⟨by simpa using h1,by omega⟩
  ·exact detL_ok n l _ h x hx
theorem belongs_range {n t:Int} (h:belongsF n t=true):24334≤t∧t≤24405:=by
 unfold belongsF at h
 split at h
 ·rw [decide_eq_true_eq] at h;omega
 ·rw [decide_eq_true_eq] at h;omega
theorem kidsD_fit:∀ (l:List Det),(∀ x∈l,(24334≤x.tag∧x.tag≤24405)∧x.text.length≤99)→fitL (kidsD l)∧sizeL (kidsD l)=l.length∧(kidsD l).length=l.length
 | [],_=>⟨trivial,rfl,rfl⟩
 | x::l,h=>by
  obtain ⟨h1,h2,h3⟩:=kidsD_fit l fun y hy=>h y (by simp [hy])
  obtain ⟨g1,g2⟩:=h x (by simp)
  refine ⟨⟨⟨by omega,by omega,by simp,trivial⟩,h1⟩,?_,by simp [kidsD]⟩
  show sizeL (.mk x.tag x.text []::kidsD l)=_
  rw [sizeL,h2,sizeN,sizeL,List.length_cons];omega
end Tdoc
namespace Tdoc
open Go Go.Proofs
theorem openX_wg (b:List UInt8):wgtL (openX b).2.1≤45056:=by
 unfold openX
 split
 ·simp [wgtL]
 ·rename_i h
  have hg:=parseX_good (b:=b) (st:=false) (by omega)
  split
  ·rename_i t v k hk
   rw [hk] at hg
   have:wgtL [Node.mk t v k]=11+v.length+wgtL k:=by simp [wgtL,wgtN]
   split
   ·simp [wgtL]
   ·simp only;omega
  ·simp [wgtL]
theorem contT_ok {ks:List Node}:∀ (out:List Tpl),(∀ t,t∈(contT out ks).1→validT t=0)∧(contT out ks).1.length≤8:=fun out=>by
 have h0:(∀ t,t∈([]:List Tpl)→validT t=0)∧([]:List Tpl).length≤8:=⟨(fun t h=>by cases h),by simp⟩
 have hf:∀ o:List Tpl,(∀ t,t∈(finT o).1→validT t=0)∧(finT o).1.length≤8:=fun o=>by
  unfold finT
  split
  ·exact h0
  ·rename_i h
   have h:(encTR o).2=0:=by omega
   unfold encTR at h
   split at h
   ·exact absurd h (by omega)
   split at h
   ·rename_i h2;exact absurd h h2
   ·rename_i h1 h2
    exact ⟨fun t ht=>firstT_mem (l:=o) (by omega) t ht,by simp only;omega⟩
 unfold contT
 split
 ·exact h0
 ·exact hf _
theorem decTs_ok (l:List Node):(∀ t,t∈(decTs l).1→validT t=0)∧(decTs l).1.length≤8:=by
 have h0:(∀ t,t∈([]:List Tpl)→validT t=0)∧([]:List Tpl).length≤8:=⟨(fun t h=>by cases h),by simp⟩
 by_cases h1:l.length=1
 case neg=>rw [decTs_many h1];exact h0
 match l,h1 with
 | [x],_ =>
  by_cases hc:consF x 32609 (-1)=true
  case neg=>rw [decTs_cons (by simpa using hc)];exact h0
  match hk:kidN x with
  | []=>rw [decTs_nil hk];exact h0
  | y::ks =>
   by_cases hp:primF y 2 1=true
   case neg=>rw [decTs_prim hk (by simpa using hp)];exact h0
   rw [decTs_go hc hk _ rfl hp]
   split
   ·rw [decR_eq];exact contT_ok []
   ·exact h0
theorem SameTpl_spec (l:List Tpl) (hl:l.length≤1000000) (hd:∀ t,t∈l→t.data.length≤1000000) :
  Spec Tryz.prog 47 [.d (.sl 7 (encTs l)),.d (.sl 7 (encTs l))] [] (fun r h'=>r=.d (.bool true)∧h'=[]):=by
 have hll:=qDr l
 refine qAb hT Tryz.func47 rfl rfl rfl rfl ?_;intro E hE
 refine ww ?_
 refine qAa rfl (fun c1=>?_) (fun c1=>?_)
 ·exact absurd c1 (by simp)
 refine ww ?_
 refine qBu (ι:=Nat) (fun i=>[(0,.d (.sl 7 (encTs l))),(1,.d (.sl 7 (encTs l))),(5,.d (.int .i64 (i:Int)))]) (fun _=>[]) (fun i=>i≤l.length) (fun i=>l.length-i) 0 (by omega) ⟨.refl _,.refl _,.refl _,trivial⟩ (HLe.refl _) ?_
 intro i hi
 have hwr:IntKind.i64.wrap ((i:Int)+1)=((i+1:Nat):Int):=by rw [qAe (by omega)];simp
 refine ww ?_
 refine qAa rfl (fun c2=>?_) (fun c2=>?_)
 ·have c2':i < l.length:=by rw [hll] at c2;simpa using c2
  have hel:=encTs_at c2'
  have hdl:=hd _ (List.getElem_mem c2')
  generalize l[i]=t at hel hdl
  obtain ⟨kind,part,frm,til,fmt,qual,data⟩:=t
  have hS:=SameSelf_spec data (by simp only at hdl;omega)
  unfold encT at hel
  simp only at hel
  refine wwe ?_
  refine qAo (qAo ?_)
  refine qAu ?_
  refine AW_block ?_
  refine qAu ?_
  refine qBg (fun i=>bif Nat.beq i 8 then [0] else bif Nat.beq i 9 then [1] else bif Nat.beq i 10 then [0] else bif Nat.beq i 11 then [1] else []) (fun i=>bif Nat.beq i 8 then [0] else bif Nat.beq i 9 then [1] else bif Nat.beq i 10 then [0] else bif Nat.beq i 11 then [1] else []) mixed (by kernel_rfl) ?_
  refine wwg ?_
  refine qCb (qAi hT rfl rfl rfl rfl (by omega) hel) rfl rfl ?_
  refine wwg ?_
  refine qCb (qAi hT rfl rfl rfl rfl (by omega) hel) rfl rfl ?_
  refine wwg ?_
  refine qAs (v:=.ptr 0 0) (os:=[.row [.d (.int .i64 0),.d (.int .i64 0),.d (.int .i64 0),.d (.int .i64 0),.d (.int .i64 0),.d (.int .i64 0),.sl 1 [] .full]]) (fun k hk1 hk2=>allocAt_ok (i0:=0) (t:=50) (i:=⟨.struct [(0,1,false),(1,1,false),(2,1,false),(3,1,false),(4,1,false),(5,1,false),(6,1,false)],7,72,[.d (.int .i64 0),.d (.int .i64 0),.d (.int .i64 0),.d (.int .i64 0),.d (.int .i64 0),.d (.int .i64 0),.sl 1 [] .full]⟩) hT rfl rfl (hk2 0 List.mem_cons_self)) rfl ?_
  refine wwg ?_
  refine qAs (v:=.ptr 1 0) (os:=[.row [.d (.int .i64 0),.d (.int .i64 0),.d (.int .i64 0),.d (.int .i64 0),.d (.int .i64 0),.d (.int .i64 0),.sl 1 [] .full]]) (fun k hk1 hk2=>allocAt_ok (i0:=1) (t:=50) (i:=⟨.struct [(0,1,false),(1,1,false),(2,1,false),(3,1,false),(4,1,false),(5,1,false),(6,1,false)],7,72,[.d (.int .i64 0),.d (.int .i64 0),.d (.int .i64 0),.d (.int .i64 0),.d (.int .i64 0),.d (.int .i64 0),.sl 1 [] .full]⟩) hT rfl rfl (hk2 1 List.mem_cons_self)) rfl ?_
  refine wwg ?_
  refine ww ?_
  refine wwgc hS ?_
  refine ww ?_
  refine qAa rfl (fun c3=>?_) (fun c3=>?_)
  ·exact absurd c3 (by simp)
  ·refine ww ?_
   exact ⟨i+1,[_,_],by omega,by omega,⟨.refl _,.refl _,.int hwr,trivial⟩,HLe.refl _,Env.below_mono hE (by simp),rfl,rfl⟩
 ·refine ww ?_
  exact wwr
end Tdoc
namespace Tdoc
open Go Go.Proofs
def detG:List UInt8→List Node→Option (List Det)
 | [],[]=>some []
 | hi::lo::v,x::l=>if tagCons ((nbN [hi,lo]:Nat):Int)=true∨primF x ((nbN [hi,lo]:Nat):Int) (-1)=false then none else (detG v l).map (⟨((nbN [hi,lo]:Nat):Int),valN x⟩::·)
 | _,_=>none
def finD (n:Int) (out:List Det):Int×List Det×Int:=if (detF n out).2≠0 then (0,[],(detF n out).2) else (n,out,0)
def contD (n:Int) (out:List Det) (v:List UInt8) (rest:List Node):Int×List Det×Int:=match detG v rest with
 | none=>(0,[],1)
 | some r=>finD n (out++r)
def detB (n:Int) (l:List Node):Int×List Det×Int:=match l with
 | []=>(0,[],1)
 | x::r=>if primF x 92 (2*(r.length:Int))=true then contD n [] (valN x) r else (0,[],1)
def detO (b:List UInt8):Int×List Det×Int:=if (openZ b 11 12).2.2≠0 then (0,[],(openZ b 11 12).2.2) else detB (openZ b 11 12).1 (openZ b 11 12).2.1
theorem openZ_ok {b:List UInt8} {lo hi:Int} (h:(openZ b lo hi).2.2=0):lo≤(openZ b lo hi).1∧(openZ b lo hi).1≤hi∧(openZ b lo hi).2.1=(openX b).2.1∧(openX b).2.2=0∧(openZ b lo hi).1=(openX b).1:=by
 unfold openZ at h ⊢
 split at h
 ·rename_i h2;exact absurd h h2
 rename_i h2
 rw [if_neg h2]
 split at h
 ·simp at h
 rename_i h3
 rw [if_neg h3]
 exact ⟨by simp only;omega,by simp only;omega,rfl,by omega,rfl⟩
end Tdoc
namespace Tdoc
open Go Go.Proofs
def finI (out:List Inf):List Inf×Int:=if validI out≠0 then ([],validI out) else (out,0)
def contI (out:List Inf) (rest:List Node):List Inf×Int:=match infXs rest with
 | none=>([],1)
 | some r=>finI (out++r)
theorem contI_nil (out:List Inf):contI out []=finI out:=by unfold contI infXs;simp
theorem contI_none {out:List Inf} {x:Node} {r:List Node} (h:infX x=none):contI out (x::r)=([],1):=by unfold contI infXs;rw [h]
theorem contI_some {out:List Inf} {x:Node} {r:List Node} {t:Inf} (h:infX x=some t):contI out (x::r)=contI (out++[t]) r:=by
 unfold contI;rw [infXs,h]
 simp only
 cases infXs r <;> simp
def decIL (l:List Node):List Inf×Int:=match l with
 | [x]=>if consF x 49 (-1)=true then contI [] (kidN x) else ([],1)
 | _=>([],1)
theorem decI_eq (b:List UInt8):decI b=if (parseX b true).2≠0 then ([],(parseX b true).2) else decIL (parseX b true).1:=by
 unfold decI decIL contI finI
 split
 ·rfl
 ·match (parseX b true).1 with
  | []=>rfl
  | [x] =>
   simp only
   split
   ·cases infXs (kidN x) <;> simp
   ·rfl
  | _::_::_=>rfl
theorem decIL_many {l:List Node} (h:l.length≠1):decIL l=([],1):=by
 match l,h with
 | [],_=>rfl
 | [a],h=>exact absurd rfl h
 | a::b::r,_=>rfl
theorem InfP_ok {x:Node} {y:Inf} (h:InfP x (y,true)):infX x=some y:=by
 unfold InfP at h
 split at h
 ·rename_i z hz;rw [hz];injection h with h1 h2;rw [h1]
 ·cases h
theorem InfP_no {x:Node} {y:Inf} (h:InfP x (y,false)):infX x=none:=by
 unfold InfP at h
 split at h
 ·injection h with h1 h2;cases h2
 ·assumption
mutual
theorem chkN_fit (d:Nat):∀ (n:Node),(chkN d n 0).1=0→wgtN n≤1000000000→fitN n∧sizeN n≤wgtN n
 | .mk t v k,h,hw=>by
  have hi:=chkN_inv h
  have hr:=tagOk_range hi.1
  rw [wgtN] at hw ⊢
  have hk:=chkL_fit (d+1) k (by rw [chkL_any (d+1) k 0 (0+1)];exact hi.2.2.2.2) (by omega)
  have hl:=len_wgt k
  exact ⟨⟨by omega,by omega,by omega,hk.1⟩,by rw [sizeN];omega⟩
theorem chkL_fit (d:Nat):∀ (l:List Node),(chkL d l 0).1=0→wgtL l≤1000000000→fitL l∧sizeL l≤wgtL l
 | [],_,_=>⟨trivial,by simp [sizeL]⟩
 | a::l,h,hw=>by
  have hi:=chkL_inv h
  rw [wgtL] at hw ⊢
  have h1:=chkN_fit d a hi.1 (by omega)
  have h2:=chkL_fit d l hi.2 (by omega)
  exact ⟨⟨h1.1,h2.1⟩,by rw [sizeL];omega⟩
end
theorem openX_chk (b:List UInt8):(chkL 2 (openX b).2.1 0).1=0:=by
 unfold openX
 split
 ·rfl
 ·rename_i h
  have hg:=(parseX_good (b:=b) (st:=false) (by omega)).2.1
  split
  ·rename_i t v k hk
   rw [hk] at hg
   split
   ·rfl
   ·have:=(chkN_inv (chkL_inv hg).1).2.2.2.2
    rw [chkL_any 2 k 0 (0+1)];exact this
  ·rfl
theorem encP_len (l:List Node):(encodeP l).1.length≤4096:=by
 unfold encodeP
 split
 ·simp
 split
 ·simp
 split
 ·simp
 ·simp only;omega
def infoO (b:List UInt8):List Inf×Int:=if (openZ b 14 14).2.2≠0 then ([],(openZ b 14 14).2.2) else decI (encodeP (openZ b 14 14).2.1).1
def keyD (v:List UInt8):Int×Int:=if v.length≠4 then (0,2) else if elemG ((nbN v:Nat):Int)=false then (0,10) else (((nbN v:Nat):Int),0)
def keyL (l:List Node):Int×Int:=match l with
 | [x]=>if primF x 4 (-1)=true then keyD (valN x) else (0,1)
 | _=>(0,1)
theorem keyL_many {l:List Node} (h:l.length≠1):keyL l=(0,1):=by
 match l,h with
 | [],_=>rfl
 | [a],h=>exact absurd rfl h
 | a::b::r,_=>rfl
def keyO (b:List UInt8):Int×Int:=if (openZ b 15 15).2.2≠0 then (0,(openZ b 15 15).2.2) else keyL (openZ b 15 15).2.1
end Tdoc
namespace Tdoc
open Go Go.Proofs
def numO (v:List UInt8):Int×Int:=if 7 < v.length then (0,2) else (((nbN v:Nat):Int),0)
theorem NumberO_spec (v:List UInt8) (hv:v.length≤1000000):Spec Tryz.prog 165 [.d (.sl 1 (encB v))] [] (fun r h'=>r=.tup [.d (.int .i64 (numO v).1),.d (.int .i64 (numO v).2)]∧h'=[]):=by
 have hl:=qAl v
 unfold numO
 by_cases h7:7 < v.length
 ·rw [if_pos h7]
  refine qAb hT Tryz.func165 rfl rfl rfl rfl ?_;intro E hE
  refine ww ?_
  refine qAa rfl (fun c1=>?_) (fun c1=>?_)
  ·refine ww ?_
   exact wwr
  ·exfalso;rw [hl] at c1;simp at c1;omega
 rw [if_neg h7]
 refine qAb hT Tryz.func165 rfl rfl rfl rfl ?_;intro E hE
 refine ww ?_
 refine qAa rfl (fun c1=>?_) (fun c1=>?_)
 ·exfalso;rw [hl] at c1;simp at c1;omega
 refine ww ?_
 refine qAq (ι:=Nat) (fun i=>[(0,.d (.sl 1 (encB v))),(4,.d (.int .i64 ((nbN (v.take i):Nat):Int))),(10,.d (.sl 1 (encB v))),(11,.d (.int .i64 ((encB v).length:Int))),(12,.d (.int .i64 (i:Int)))]) (fun _=>[]) (fun i=>i≤v.length) (fun i=>v.length-i) 0 (by omega) ⟨.refl _,.refl _,.refl _,.refl _,.refl _,trivial⟩ (HLe.refl _) ?_
 intro i hi
 have hwr:IntKind.i64.wrap ((i:Int)+1)=((i+1:Nat):Int):=by rw [qAe (by omega)];simp
 refine ww ?_
 refine qAa rfl (fun c2=>?_) (fun c2=>?_)
 ·have c2':i < v.length:=by rw [hl] at c2;simpa using c2
  have hel:(encB v)[((i:Int)).toNat]?=some [.int .u8 (v[i].toNat:Int)]:=by simp [encB,c2']
  have htk:nbN (v.take (i+1))=256*nbN (v.take i)+v[i].toNat:=by rw [List.take_succ_eq_append_getElem c2',nbN_snoc]
  have hlt:nbN (v.take i) < 256 ^ 6:=Nat.lt_of_lt_of_le (nbN_lt _) (Nat.pow_le_pow_right (by omega) (by rw [List.length_take];omega))
  have h6:(256:Nat) ^ 6=281474976710656:=by decide
  rw [h6] at hlt
  have hc:=UInt8.toNat_lt v[i]
  generalize v[i]=c at hel htk hc
  generalize nbN (v.take i)=n at htk hlt
  have hb8:IntKind.i64.wrap (c.toNat:Int)=(c.toNat:Int):=qAe (by omega)
  have hs8:IntKind.i64.wrap ((n:Int)*2 ^ (min (Int.toNat 8) IntKind.i64.bits))=((n*2 ^ 8:Nat):Int):=by
   rw [show min (Int.toNat 8) IntKind.i64.bits=8 from rfl,qAe (by omega)];omega
  have hw1:IntKind.i64.wrap ((BitVec.ofInt IntKind.i64.bits (IntKind.i64.wrap ((n:Int)*2 ^ (min (Int.toNat 8) IntKind.i64.bits))) ||| BitVec.ofInt IntKind.i64.bits (IntKind.i64.wrap (c.toNat:Int))).toNat:Int)=((nbN (v.take (i+1)):Nat):Int):=by
   rw [hb8,hs8,or_nat (by omega) (by omega),shl_or n c.toNat 8 (by omega),htk];congr 1;omega
  refine ww ?_
  refine wwi hel ?_
  refine ww ?_
  exact ⟨i+1,by omega,by omega,⟨.refl _,.int hw1,.refl _,.refl _,.int hwr,trivial⟩,HLe.refl _⟩
 ·have c2':i=v.length:=by rw [hl] at c2;simp at c2;omega
  subst c2'
  rw [List.take_length]
  refine ww ?_
  exact wwr
theorem KeyG_spec (v:List UInt8) (hv:v.length≤1000000):Spec Tryz.prog 99 [.d (.sl 1 (encB v))] [] (fun r h'=>r=.tup [.d (.int .i64 (keyD v).1),.d (.int .i64 (keyD v).2)]∧h'=[]):=by
 have hl:=qAl v
 unfold keyD
 by_cases h4:v.length=4
 case neg =>
  rw [if_pos h4]
  refine qAb hT Tryz.func99 rfl rfl rfl rfl ?_;intro E hE
  refine ww ?_
  refine qAa rfl (fun c1=>?_) (fun c1=>?_)
  ·refine ww ?_
   exact wwr
  ·exfalso;rw [hl] at c1;simp at c1;omega
 rw [if_neg (by omega)]
 have hN:=NumberO_spec v (by omega)
 unfold numO at hN
 rw [if_neg (by omega)] at hN
 have hEl:=Element_spec ((nbN v:Nat):Int)
 generalize elemG ((nbN v:Nat):Int)=el at hEl
 refine qAb hT Tryz.func99 rfl rfl rfl rfl ?_;intro E hE
 refine ww ?_
 refine qAa rfl (fun c1=>?_) (fun c1=>?_)
 ·exfalso;rw [hl,h4] at c1;simp at c1
 refine ww ?_
 refine wwc hN ?_
 refine ww ?_
 refine wwc hEl ?_
 refine ww ?_
 refine qAa rfl (fun c2=>?_) (fun c2=>?_)
 ·have hn:el=false:=by simpa using c2
  rw [if_pos hn]
  refine ww ?_
  exact wwr
 have hn:¬ el=false:=by simpa using c2
 rw [if_neg hn]
 refine ww ?_
 exact wwr
def primL (l:List Node) (t:Int):List UInt8×Int:=match l with
 | [.mk t' v _]=>if t'=t then (v,0) else ([],1)
 | _=>([],1)
theorem primL_many {l:List Node} {t:Int} (h:l.length≠1):primL l t=([],1):=by
 match l,h with
 | [],_=>rfl
 | [a],h=>exact absurd rfl h
 | .mk _ _ _::b::r,_=>rfl
theorem primitive_spec (l:List Node) (t:Int):Spec Tryz.prog 88 [.d (.sl 3 (encNs l)),.d (.int .i64 t)] []
  (fun r h'=>r=.tup [.d (.sl 1 (encB (primL l t).1)),.d (.int .i64 (primL l t).2)]∧h'=[]):=by
 have hlen:=qAm l
 by_cases h2:l.length=1
 case neg =>
  rw [primL_many h2]
  have hn:(((encNs l).length:Int) != 1)=true:=by rw [hlen];simp;omega
  refine qAb hT Tryz.func88 rfl rfl rfl rfl ?_;intro E hE
  refine wwk hn ?_
  refine qAa rfl (fun c2=>?_) (fun c2=>?_)
  ·refine ww ?_
   exact wwr
  ·rw [hn] at c2
   exact absurd c2 (by simp)
 obtain ⟨t',v,k,rfl⟩:∃ t v k,l=[.mk t v k]:=match l,h2 with
  | [.mk t v k],_=>⟨t,v,k,rfl⟩
 have hel:(encNs [.mk t' v k])[((0:Int)).toNat]?=some [.int .i64 t',.sl 1 (encB v),.sl 3 (encNs k)]:=rfl
 have hn1:(((encNs [.mk t' v k]).length:Int) != 1)=false:=rfl
 unfold primL
 simp only
 refine qAb hT Tryz.func88 rfl rfl rfl rfl ?_;intro E hE
 refine ww ?_
 refine wwgi hel ?_
 refine ww ?_
 refine qAa rfl (fun c2=>?_) (fun c2=>?_)
 ·have hn:t'≠t:=by rw [hn1] at c2;simpa using c2
  rw [if_neg hn]
  refine ww ?_
  exact wwr
 have hn:t'=t:=by rw [hn1] at c2;simpa using c2
 rw [if_pos hn]
 refine ww ?_
 refine wwi hel ?_
 refine ww ?_
 exact wwr
theorem OpenActive_spec (b:List UInt8) (hb:b.length≤9223372036854775807):Spec Tryz.prog 44 [.d (.sl 1 (encB b))] []
  (fun r h'=>r=.tup [.d (.int .i64 (keyO b).1),.d (.int .i64 (keyO b).2)]∧h'=[]):=by
 have ho:=open_spec b 15 (by omega)
 have hz:=openZ_eq b 15
 have hwf:=openY_wf b 15
 have hwg:(openY b 15).2=0→wgtL (openY b 15).1≤45056:=fun h=>by
  rw [← hz.1,(openZ_ok (by rw [hz.2];exact h)).2.2.1];exact openX_wg b
 unfold keyO
 rw [hz.1,hz.2]
 generalize openY b 15=q at ho hwf hwg
 obtain ⟨l,e⟩:=q
 simp only at ho hwf hwg ⊢
 by_cases h1:e=0
 case neg =>
  rw [if_pos h1]
  refine qAb hT Tryz.func44 rfl rfl rfl rfl ?_;intro E hE
  refine ww ?_
  refine wwc ho ?_
  refine ww ?_
  refine qAa rfl (fun c1=>?_) (fun c1=>?_)
  ·refine ww ?_
   exact wwr
  ·exact absurd (by simpa using c1) h1
 have hwl:=hwg h1
 clear hwg
 subst h1
 rw [if_neg (by omega)]
 have hP:=primitive_spec l 4
 have hkl:keyL l=if (primL l 4).2≠0 then (0,1) else keyD (primL l 4).1:=by
  by_cases h2:l.length=1
  case neg=>rw [keyL_many h2,primL_many h2];rfl
  obtain ⟨t',v,k,rfl⟩:∃ t v k,l=[.mk t v k]:=match l,h2 with
   | [.mk t v k],_=>⟨t,v,k,rfl⟩
  have hw:=hwf _ (List.mem_singleton.mpr rfl)
  have hp:=primF_any (t':=t') (t:=4) (v:=v) (k:=k) (fun h=>hw.prim (by rw [h];rfl))
  unfold keyL primL
  simp only [valN]
  by_cases h4:t'=4
  ·rw [if_pos (hp.mpr h4),if_pos h4];rfl
  ·rw [if_neg (fun h=>h4 (hp.mp h)),if_neg h4];rfl
 have hpe:(primL l 4).2=0∨(primL l 4).2=1:=by
  unfold primL;split
  ·split <;> simp
  ·simp
 have hv:(primL l 4).1.length≤1000000:=by
  by_cases h2:l.length=1
  case neg=>rw [primL_many h2];simp
  obtain ⟨t',v,k,rfl⟩:∃ t v k,l=[.mk t v k]:=match l,h2 with
   | [.mk t v k],_=>⟨t,v,k,rfl⟩
  unfold primL
  simp only
  split
  ·simp only [wgtL,wgtN] at hwl;simp only;omega
  ·simp
 rw [hkl]
 generalize primL l 4=p at hP hpe hv
 obtain ⟨v,pe⟩:=p
 simp only at hP hpe hv ⊢
 have hD:=KeyG_spec v hv
 generalize keyD v=w at hD
 obtain ⟨w,we⟩:=w
 simp only at hD
 refine qAb hT Tryz.func44 rfl rfl rfl rfl ?_;intro E hE
 refine ww ?_
 refine wwc ho ?_
 refine ww ?_
 refine qAa rfl (fun c1=>?_) (fun c1=>?_)
 ·exact absurd c1 (by simp)
 refine ww ?_
 refine wwc hP ?_
 refine ww ?_
 refine qAa rfl (fun c2=>?_) (fun c2=>?_)
 ·have hn:pe≠0:=by simpa using c2
  rw [if_pos hn]
  have:pe=1:=by omega
  subst this
  refine ww ?_
  exact wwr
 have hn:¬ pe≠0:=by simpa using c2
 rw [if_neg hn]
 refine ww ?_
 refine wwc hD ?_
 refine ww ?_
 exact wwr
end Tdoc
namespace Tdoc
open Go Go.Proofs
end Tdoc
namespace Tdoc
open Go Go.Proofs
end Tdoc
namespace Tdoc
open Go Go.Proofs
end Tdoc
namespace Tdoc
open Go Go.Proofs
end Tdoc
namespace Tdoc
open Go Go.Proofs
end Tdoc
namespace Tdoc
open Go Go.Proofs
end Tdoc
namespace Tdoc
open Go Go.Proofs
def fIdx {α:Type} (p:α→Bool) (l:List α):Int:=match l.findIdx? p with
 | some i=>i
 | none=>-1
theorem fIdx_at {α:Type} {p:α→Bool} {l:List α} {k:Nat} (hk:k < l.length) (h:p l[k]=true) (hb:∀ j,(hj:j < k)→(hj2:j < l.length)→p l[j]=false):fIdx p l=k:=by
 unfold fIdx
 have:l.findIdx? p=some k:=by
  rw [List.findIdx?_eq_some_iff_getElem]
  exact ⟨hk,h,fun j hj=>by simpa using hb j hj (by omega)⟩
 rw [this]
theorem fIdx_none {α:Type} {p:α→Bool} {l:List α} (hb:∀ j,(hj:j < l.length)→p l[j]=false):fIdx p l = -1:=by
 unfold fIdx
 have:l.findIdx? p=none:=by
  rw [List.findIdx?_eq_none_iff]
  intro x hx
  obtain ⟨j,hj,rfl⟩:=List.mem_iff_getElem.1 hx
  simpa using hb j hj
 rw [this]
theorem fIdx_any {α:Type} (p:α→Bool) (l:List α):decide (fIdx p l≥0)=l.any p:=by
 unfold fIdx
 split
 ·rename_i i h
  obtain ⟨h1,h2,_⟩:=List.findIdx?_eq_some_iff_getElem.1 h
  have:l.any p=true:=List.any_eq_true.2 ⟨_,List.getElem_mem h1,h2⟩
  rw [this];simp
 ·rename_i h
  rw [List.findIdx?_eq_none_iff] at h
  have:l.any p=false:=by rw [List.any_eq_false];intro x hx;simpa using h x hx
  rw [this];decide
end Tdoc
namespace Tdoc
open Go Go.Proofs
def isF (x:Node) (t:Int):Bool:=if tagCons t=true then consF x t (-1) else primF x t (-1)
theorem is_spec (x:Node) (t:Int) (hw : -9223372036854775808≤t∧t≤9223372036854775807):Spec Tryz.prog 157 [nAV x,.d (.int .i64 t)] [] (fun r h'=>r=.d (.bool (isF x t))∧h'=[]):=by
 obtain ⟨t',v,k⟩:=x
 show Spec Tryz.prog 157 [.agg [.d (.int .i64 t'),.d (.sl 1 (encB v)),.d (.sl 3 (encNs k))],.d (.int .i64 t)] [] _
 have hv:=qAl v
 have hk:=qAm k
 have hC:=qCr t hw
 unfold isF
 rw [consF,primF,← hv,← hk]
 simp only [show decide ((-1:Int) < 0)=true from rfl,Bool.true_or,Bool.and_true]
 generalize encB v=ev at hv ⊢
 generalize encNs k=ek at hk ⊢
 generalize tagCons t=tc at hC
 refine qAb hT Tryz.func157 rfl rfl rfl rfl ?_;intro E hE
 refine qAo ?_
 refine qAu (qAn ?_)
 refine qAd (qCg (i0:=0) rfl rfl rfl) rfl ?_
 refine ww ?_
 refine wwc hC ?_
 refine ww ?_
 refine qAa rfl (fun c1=>?_) (fun c1=>?_)
 ·rw [if_pos c1]
  refine ww ?_
  exact wwr
 ·rw [if_neg (by rw [c1];simp)]
  refine ww ?_
  exact wwr
def partF (k p:Int):Bool:=if k=1 then p == 0 else if k=2 then decide (p≥1)&&decide (p≤10) else if k=3 then p == 1||p == 2 else false
theorem validT_part (t:Tpl):validT t=if partF t.kind t.part=false then 14
 else if dayOk t.frm=false∨dayOk t.til=false∨t.frm > t.til then 8
 else if t.fmt < 0∨t.fmt > 65535∨t.qual < 0∨t.qual > 100 then 3
 else if t.data.length < 1∨t.data.length > 1024 then 2 else 0:=by
 have h:partF t.kind t.part=false↔((t.kind≠1∧t.kind≠2∧t.kind≠3)∨(t.part < 0∨t.part > mostT t.kind∨(mostT t.kind > 0∧t.part=0))):=by
  unfold partF mostT
  split
  ·rename_i h1;rw [if_neg (by omega),if_neg (by omega)];simp;omega
  split
  ·simp;omega
  split
  ·simp;omega
  ·simp;omega
 unfold validT
 by_cases h1:t.kind≠1∧t.kind≠2∧t.kind≠3
 ·rw [if_pos h1,if_pos (h.2 (.inl h1))]
 rw [if_neg h1]
 by_cases h2:t.part < 0∨t.part > mostT t.kind∨(mostT t.kind > 0∧t.part=0)
 ·rw [if_pos h2,if_pos (h.2 (.inr h2))]
 have h3:¬ partF t.kind t.part=false:=fun hh=>(h.1 hh).elim h1 h2
 rw [if_neg h2,if_neg h3]
theorem part_spec (k p:Int):Spec Tryz.prog 248 [.d (.int .i64 k),.d (.int .i64 p)] [] (fun r h'=>r=.d (.bool (partF k p))∧h'=[]):=by
 unfold partF
 refine qAb hT Tryz.func248 rfl rfl rfl rfl ?_;intro E hE
 refine ww ?_
 refine qAa rfl (fun c1=>?_) (fun c1=>?_)
 ·rw [if_pos (by simpa using c1)]
  refine ww ?_
  exact wwr
 rw [if_neg (by simpa using c1)]
 refine ww ?_
 refine qAa rfl (fun c2=>?_) (fun c2=>?_)
 ·rw [if_pos (by simpa using c2)]
  refine ww ?_
  exact wwr
 rw [if_neg (by simpa using c2)]
 refine ww ?_
 refine qAa rfl (fun c3=>?_) (fun c3=>?_)
 ·rw [if_pos (by simpa using c3)]
  refine ww ?_
  exact wwr
 rw [if_neg (by simpa using c3)]
 refine ww ?_
 refine wwe ?_
 refine ww ?_
 exact wwr
theorem ValidDay_spec (n:Int):Spec Tryz.prog 249 [.d (.int .i64 n)] [] (fun r h'=>r=.d (.bool (dayOk n))∧h'=[]):=by
 unfold dayOk
 rw [Bool.decide_and]
 refine qAb hT Tryz.func249 rfl rfl rfl rfl ?_;intro E hE
 refine ww ?_
 exact wwr
theorem ValidB_spec (t:Tpl):Spec Tryz.prog 198 [tAV t] [] (fun r h'=>r=.d (.int .i64 (validT t))∧h'=[]):=by
 rw [validT_part]
 obtain ⟨kind,part,frm,til,fmt,qual,data⟩:=t
 have hp:=part_spec kind part
 have hv1:=ValidDay_spec frm
 have hv2:=ValidDay_spec til
 have hl:=qAl data
 unfold tAV tCells
 simp only
 generalize partF kind part=pf at hp
 generalize dayOk frm=d1 at hv1
 generalize dayOk til=d2 at hv2
 rw [← hl]
 generalize encB data=eb at hl
 refine qAb hT Tryz.func198 rfl rfl rfl rfl ?_;intro E hE
 refine qAo ?_
 refine qAu (qAn ?_)
 refine qAd (qCg (i0:=0) rfl rfl rfl) rfl ?_
 refine ww ?_
 refine wwc hp ?_
 refine ww ?_
 refine qAa rfl (fun c0=>?_) (fun c0=>?_)
 ·rw [if_pos (by simpa using c0)]
  refine ww ?_
  exact wwr
 rw [if_neg (by simpa using c0)]
 refine ww ?_
 refine wwc hv1 ?_
 refine ww ?_
 refine wwgc hv2 ?_
 refine ww ?_
 refine qAa rfl (fun c2=>?_) (fun c2=>?_)
 ·have c2':d1=false∨d2=false∨frm > til:=by simpa [or_assoc] using c2
  rw [if_pos c2']
  refine ww ?_
  exact wwr
 have c2':¬ (d1=false∨d2=false∨frm > til):=by
  intro hh
  simp only [Bool.or_eq_false_iff,Bool.and_eq_false_iff,decide_eq_false_iff_not] at c2
  rcases hh with h | h | h <;> simp [h] at c2
 rw [if_neg c2']
 refine ww ?_
 refine qAa rfl (fun c3=>?_) (fun c3=>?_)
 ·have c3':fmt < 0∨fmt > 65535∨qual < 0∨qual > 100:=by simpa [or_assoc] using c3
  rw [if_pos c3']
  refine ww ?_
  exact wwr
 have c3':¬ (fmt < 0∨fmt > 65535∨qual < 0∨qual > 100):=by
  simp only [Bool.or_eq_false_iff,decide_eq_false_iff_not] at c3
  omega
 rw [if_neg c3']
 refine ww ?_
 refine qAa rfl (fun c4=>?_) (fun c4=>?_)
 ·have c4':eb.length < 1∨eb.length > 1024:=by
   simp only [Bool.or_eq_true,decide_eq_true_eq] at c4
   omega
  rw [if_pos c4']
  refine ww ?_
  exact wwr
 have c4':¬ (eb.length < 1∨eb.length > 1024):=by
  simp only [Bool.or_eq_false_iff,decide_eq_false_iff_not] at c4
  omega
 rw [if_neg c4']
 refine ww ?_
 refine wwe ?_
 refine ww ?_
 exact wwr
end Tdoc
namespace Tdoc
open Go Go.Proofs
def fieldsE:List (List Dat):=fldT.map fun f=>[.int .i64 f.1,.int .i64 f.2]
theorem fields_spec:Spec Tryz.prog 199 [] [] (fun r h'=>r=.d (.sl 2 fieldsE)∧h'=[]):=by
 refine qAb hT Tryz.func199 rfl rfl rfl rfl ?_;intro E hE
 refine ww ?_
 exact wwr
def nxT (f:Int×Int) (hs:List Node) (ok:Bool):Int×List Node×Bool:=match hs with
 | []=>(0,[],false)
 | y::r=>if primF y f.1 f.2=true then (((nbN (valN y):Nat):Int),r,ok) else (0,y::r,false)
theorem primF_split (t' t n:Int) (v:List UInt8) (k:List Node) (hn:0≤n) (ht:tagCons t=false):primF (.mk t' v k) t n=(isF (.mk t' v k) t&&((v.length:Int) == n)):=by
 unfold isF
 rw [if_neg (by rw [ht];simp),primF,primF]
 simp only [show decide ((-1:Int) < 0)=true from rfl,Bool.true_or,Bool.and_true,show decide (n < 0)=false from by simp;omega,Bool.false_or]
theorem next_spec (t:Int) (v:List UInt8) (th:Int) (vh:List UInt8) (kh ks hs:List Node) (ok:Bool) (i:Nat) (f:Int×Int) (hf:fieldsE[((i:Nat):Int).toNat]?=some [.int .i64 f.1,.int .i64 f.2]) (hf2:0≤f.1∧f.1≤10000∧0≤f.2∧f.2≤4∧tagCons f.1=false)
  (hk:kh.length=6) (hh:hs.length+i=6) (hi:i < 6) (hw:∀ x∈hs,(valN x).length≤1000000) :
  Spec Tryz.prog 227 [.ptr 0 0,.ptr 1 0,.ptr 2 0] [.row [.d (.int .i64 t),.d (.sl 1 (encB v)),.d (.sl 3 (encNs (.mk th vh kh::ks)))],.row [.d (.sl 3 (encNs hs))],.row [.d (.bool ok)]]
   (fun r h'=>r=.d (.int .i64 (nxT f hs ok).1)∧h'=[.row [.d (.int .i64 t),.d (.sl 1 (encB v)),.d (.sl 3 (encNs (.mk th vh kh::ks)))],.row [.d (.sl 3 (encNs (nxT f hs ok).2.1))],.row [.d (.bool (nxT f hs ok).2.2)]]):=by
 have hF:=fields_spec
 obtain ⟨ft,fn⟩:=f
 simp only at hf hf2
 have hkl:=qAm kh
 have hel0:(encNs (.mk th vh kh::ks))[((0:Int)).toNat]?=some [.int .i64 th,.sl 1 (encB vh),.sl 3 (encNs kh)]:=rfl
 match hs,hh,hw with
 | [],hh,_=>exact absurd hh (by simp;omega)
 | .mk ty vy ky::r,hh,hw =>
 have hsl:=qAm (.mk ty vy ky::r)
 have hel1:(encNs (.mk ty vy ky::r))[((0:Int)).toNat]?=some [.int .i64 ty,.sl 1 (encB vy),.sl 3 (encNs ky)]:=rfl
 have hwi:IntKind.i64.wrap (((encNs kh).length:Int)-((encNs (.mk ty vy ky::r)).length:Int))=((i:Nat):Int):=by
  rw [hkl,hsl,hk,qAe (by omega)];omega
 have hvy:=hw _ (List.mem_cons_self ..)
 simp only [valN] at hvy
 have hI:=is_spec (.mk ty vy ky) ft (by omega)
 rw [nAV_eq] at hI
 have hps:=primF_split ty ft fn vy ky (by omega) hf2.2.2.2.2
 have hvl:=qAl vy
 rw [List.length_cons] at hsl
 have hz:(((encNs (.mk ty vy ky::r)).length:Int) == 0)=false:=by rw [hsl];simp;omega
 unfold nxT
 simp only [valN]
 rw [hps]
 generalize isF (.mk ty vy ky) ft=b at hI
 generalize fieldsE=fe at hF hf
 refine qAb hT Tryz.func227 rfl rfl rfl rfl ?_;intro E hE
 refine ww ?_
 refine wwi hel0 ?_
 refine ww ?_
 refine wwc hF ?_
 refine ww ?_
 rw [hwi]
 refine wwi hf ?_
 refine ww ?_
 refine wwgi hel1 ?_
 refine ww ?_
 refine wwgc hI ?_
 refine ww ?_
 refine wwgi hel1 ?_
 refine ww ?_
 have hc:((((encNs (.mk ty vy ky::r)).length:Int) == 0)||!b||(((encB vy).length:Int) != fn))=!(b&&((vy.length:Int) == fn)):=by
  rw [hz,hvl];cases b <;> simp [bne]
 refine qAa rfl (fun c1=>?_) (fun c1=>?_)
 ·rw [hc] at c1
  have c1':¬ (b&&((vy.length:Int) == fn))=true:=fun hh=>by rw [hh] at c1;exact absurd c1 (by simp)
  rw [if_neg c1']
  refine ww ?_
  exact wwr
 rw [hc] at c1
 have c1':(b&&((vy.length:Int) == fn))=true:=by simpa using c1
 have h4:(vy.length:Int)=fn:=by simp only [Bool.and_eq_true,beq_iff_eq] at c1';exact c1'.2
 have hN:=NumberO_spec vy (by omega)
 unfold numO at hN
 rw [if_neg (by omega)] at hN
 rw [if_pos c1']
 refine ww ?_
 refine wwi hel1 ?_
 refine ww ?_
 refine wwc hN ?_
 refine ww ?_
 exact wwr
end Tdoc
namespace Tdoc
open Go Go.Proofs
theorem consF_split (t' t n:Int) (v:List UInt8) (k:List Node) (hn:0≤n) (ht:tagCons t=true):consF (.mk t' v k) t n=(isF (.mk t' v k) t&&((k.length:Int) == n)):=by
 unfold isF
 rw [if_pos ht,consF,consF]
 simp only [show decide ((-1:Int) < 0)=true from rfl,Bool.true_or,Bool.and_true,show decide (n < 0)=false from by simp;omega,Bool.false_or]
def nxI (hs:List Node) (ok:Bool):Int×List Node×Bool:=nxT (fldT.getD (6-hs.length) (0,0)) hs ok
def nxR:Nat→List Node→Bool→List Int×List Node×Bool
 | 0,hs,ok=>([],hs,ok)
 | n+1,hs,ok=>((nxI hs ok).1::(nxR n (nxI hs ok).2.1 (nxI hs ok).2.2).1,(nxR n (nxI hs ok).2.1 (nxI hs ok).2.2).2)
theorem nxT_false (f:Int×Int) (hs:List Node):(nxT f hs false).2.2=false:=by
 unfold nxT;split
 ·rfl
 ·split <;> rfl
theorem nxR_false:∀ (n:Nat) (hs:List Node),(nxR n hs false).2.2=false
 | 0,_=>rfl
 | n+1,hs=>by
  have h:(nxI hs false).2.2=false:=nxT_false _ _
  rw [nxR];simp only;rw [h];exact nxR_false n _
theorem fldT_drop:∀ {k:Nat},k < 6→fldT.drop k=fldT.getD k (0,0)::fldT.drop (k+1)
 | 0,_=>rfl
 | 1,_=>rfl
 | 2,_=>rfl
 | 3,_=>rfl
 | 4,_=>rfl
 | 5,_=>rfl
 | n+6,h=>by omega
theorem nxR_hdr:∀ (hs:List Node),hs.length≤6→(match hdrF (fldT.drop (6-hs.length)) hs with
  | some l=>nxR hs.length hs true=(l,[],true)
  | none=>(nxR hs.length hs true).2.2=false)
 | [],_=>rfl
 | y::hs,h=>by
  rw [List.length_cons] at h
  have hd:=fldT_drop (k:=6-(hs.length+1)) (by omega)
  rw [List.length_cons,hd,hdrF,nxR]
  unfold nxI nxT
  simp only [List.length_cons]
  by_cases hp:primF y (fldT.getD (6-(hs.length+1)) (0,0)).1 (fldT.getD (6-(hs.length+1)) (0,0)).2=true
  ·rw [if_pos hp,if_pos hp]
   have ih:=nxR_hdr hs (by omega)
   rw [show 6-(hs.length+1)+1=6-hs.length by omega]
   simp only
   cases hh:hdrF (fldT.drop (6-hs.length)) hs with
   | none=>rw [hh] at ih;exact ih
   | some l=>rw [hh] at ih;simp only at ih;rw [ih];rfl
  ·rw [if_neg hp,if_neg hp]
   exact nxR_false _ _
theorem nxI_len (hs:List Node) (ok:Bool):hs.length≤(nxI hs ok).2.1.length+1∧(nxI hs ok).2.1.length≤hs.length∧∀ x∈(nxI hs ok).2.1,x∈hs:=by
 unfold nxI nxT
 split
 ·simp
 ·split
  ·simp;intro x hx;exact .inr hx
  ·simp
theorem fldE_at:∀ {k:Nat},k < 6→fieldsE[((k:Nat):Int).toNat]?=some [.int .i64 (fldT.getD k (0,0)).1,.int .i64 (fldT.getD k (0,0)).2] ∧
  (0≤(fldT.getD k (0,0)).1∧(fldT.getD k (0,0)).1≤10000∧0≤(fldT.getD k (0,0)).2∧(fldT.getD k (0,0)).2≤4∧tagCons (fldT.getD k (0,0)).1=false)
 | 0,_=>⟨rfl,by decide⟩
 | 1,_=>⟨rfl,by decide⟩
 | 2,_=>⟨rfl,by decide⟩
 | 3,_=>⟨rfl,by decide⟩
 | 4,_=>⟨rfl,by decide⟩
 | 5,_=>⟨rfl,by decide⟩
 | n+6,h=>by omega
theorem nextI_spec (t:Int) (v:List UInt8) (th:Int) (vh:List UInt8) (kh ks hs:List Node) (ok:Bool) (hk:kh.length=6) (h1:1≤hs.length∧hs.length≤6) (hw:∀ x∈hs,(valN x).length≤1000000) :
  Spec Tryz.prog 227 [.ptr 0 0,.ptr 1 0,.ptr 2 0] [.row [.d (.int .i64 t),.d (.sl 1 (encB v)),.d (.sl 3 (encNs (.mk th vh kh::ks)))],.row [.d (.sl 3 (encNs hs))],.row [.d (.bool ok)]]
   (fun r h'=>r=.d (.int .i64 (nxI hs ok).1)∧h'=[.row [.d (.int .i64 t),.d (.sl 1 (encB v)),.d (.sl 3 (encNs (.mk th vh kh::ks)))],.row [.d (.sl 3 (encNs (nxI hs ok).2.1))],.row [.d (.bool (nxI hs ok).2.2)]]):=by
 have hf:=fldE_at (k:=6-hs.length) (by omega)
 exact next_spec t v th vh kh ks hs ok (6-hs.length) _ hf.1 hf.2 hk (by omega) (by omega) hw
def TplX (x:Node) (y:Tpl×Bool):Prop:=match decT x with
 | some t=>y=(t,true)
 | none=>y.2=false
theorem TplX.none {x:Node} {y:Tpl} (h:decT x=none):TplX x (y,false):=by unfold TplX;rw [h]
theorem TplX.ok {x:Node} {y:Tpl} (h:TplX x (y,true)):decT x=some y:=by
 unfold TplX at h
 split at h
 ·rename_i z hz;rw [hz];injection h with h1 h2;rw [h1]
 ·cases h
theorem TplX.no {x:Node} {y:Tpl} (h:TplX x (y,false)):decT x=.none:=by
 unfold TplX at h
 split at h
 ·injection h with h1 h2;cases h2
 ·assumption
theorem decT_split (t:Int) (v:List UInt8) (th:Int) (vh:List UInt8) (kh:List Node) (td:Int) (vd:List UInt8) (kd:List Node) :
  decT (.mk t v [.mk th vh kh,.mk td vd kd])=if (isF (.mk t v [.mk th vh kh,.mk td vd kd]) 32608&&isF (.mk th vh kh) 161&&isF (.mk td vd kd) 24366&&((kh.length:Int) == 6))=true then
   (match hdrF fldT kh with | some [a,b,c,e,q,f]=>some ⟨a,b,c,e,f,q,vd⟩ | _=>none) else none:=by
 have h1:=consF_split t 32608 2 v [.mk th vh kh,.mk td vd kd] (by decide) rfl
 have h2:=consF_split th 161 6 vh kh (by decide) rfl
 have h3:primF (.mk td vd kd) 24366 (-1)=isF (.mk td vd kd) 24366:=by unfold isF;rw [if_neg (by decide)]
 rw [show (((([.mk th vh kh,.mk td vd kd]:List Node).length:Nat):Int) == 2)=true from rfl,Bool.and_true] at h1
 unfold decT
 rw [h1]
 simp only [kidN,valN]
 rw [h2,h3]
 generalize isF (.mk t v [.mk th vh kh,.mk td vd kd]) 32608=b0
 generalize isF (.mk th vh kh) 161=b1
 generalize isF (.mk td vd kd) 24366=b2
 generalize ((kh.length:Int) == 6)=b3
 cases b0 <;> cases b1 <;> cases b2 <;> cases b3 <;> simp <;> rfl
theorem tpl_fin {t:Int} {v:List UInt8} {th:Int} {vh:List UInt8} {kh:List Node} {td:Int} {vd:List UInt8} {kd:List Node} (h6:kh.length=6)
  (hb:(isF (.mk t v [.mk th vh kh,.mk td vd kd]) 32608&&isF (.mk th vh kh) 161&&isF (.mk td vd kd) 24366)=true) {p1 p2 p3 p4 p5 p6:Int×List Node×Bool}
  (e1:nxI kh true=p1) (e2:nxI p1.2.1 p1.2.2=p2) (e3:nxI p2.2.1 p2.2.2=p3) (e4:nxI p3.2.1 p3.2.2=p4) (e5:nxI p4.2.1 p4.2.2=p5) (e6:nxI p5.2.1 p5.2.2=p6) :
  TplX (.mk t v [.mk th vh kh,.mk td vd kd]) (⟨p1.1,p2.1,p3.1,p4.1,p6.1,p5.1,vd⟩,p6.2.2):=by
 have hR:=nxR_hdr kh (by omega)
 rw [h6] at hR
 have hX:nxR 6 kh true=([p1.1,p2.1,p3.1,p4.1,p5.1,p6.1],p6.2):=by
  subst e1;subst e2;subst e3;subst e4;subst e5;subst e6;rfl
 rw [hX] at hR
 unfold TplX
 rw [decT_split,hb,h6]
 simp only [show (((6:Nat):Int) == 6)=true from rfl,Bool.and_true,if_true]
 rw [show fldT.drop (6-6)=fldT from rfl] at hR
 cases hh:hdrF fldT kh with
 | none=>rw [hh] at hR;exact hR
 | some l =>
  rw [hh] at hR
  injection hR with g1 g2
  subst g1
  simp only
  rw [g2]
end Tdoc
