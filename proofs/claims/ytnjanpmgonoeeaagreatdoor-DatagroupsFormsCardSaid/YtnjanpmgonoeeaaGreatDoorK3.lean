/- The table of this seat's types, printed by program, and that it fits the program. -/
import Derived.Test.YtnjanpmgonoeeaaGreatDoorK2
import Derived.Test.YtnjanpmgonoeeaaGreatDoorProg
import Derived.KernelRfl
import Derived.WalkKit
import Derived.ProofKit
import Derived.OpenShut
import Derived.JoinedCond
namespace Tdoc
open Go Go.Proofs

def T : Tr := (.nd (.nd (.nd (.nd (.nd (.nd (.nd (.nd .lf 1 ⟨.fn, 1, 8, [.nilf]⟩ .lf) 2 ⟨.int .i64, 1, 8, [.d (.int .i64 0)]⟩ (.nd .lf 3 ⟨.int .i64, 1, 8, [.d (.int .i64 0)]⟩ .lf)) 4 ⟨.bool, 1, 1, [.d (.bool false)]⟩ (.nd (.nd .lf 5 ⟨.int .u8, 1, 1, [.d (.int .u8 0)]⟩ .lf) 7 ⟨.struct [(0, 1, false), (1, 1, false), (2, 1, false), (3, 1, false)], 4, 24, [.d (.int .i64 0), .d (.int .i64 0), .d (.bool false), .d (.int .u8 0)]⟩ (.nd .lf 9 ⟨.str, 1, 16, [.d (.str [])]⟩ .lf))) 12 ⟨.int .u64, 1, 8, [.d (.int .u64 0)]⟩ (.nd (.nd (.nd .lf 13 ⟨.struct [(0, 1, false), (1, 1, false)], 2, 24, [.d (.str []), .d (.int .u64 0)]⟩ .lf) 18 ⟨.struct [(0, 1, false)], 1, 8, [.nilp]⟩ (.nd .lf 21 ⟨.int .i32, 1, 4, [.d (.int .i32 0)]⟩ .lf)) 22 ⟨.slice 3, 1, 24, [.sl 1 [] .full]⟩ (.nd (.nd .lf 23 ⟨.fn, 1, 8, [.nilf]⟩ .lf) 24 ⟨.fn, 1, 8, [.nilf]⟩ .lf))) 25 ⟨.ptr, 1, 8, [.nilp]⟩ (.nd (.nd (.nd (.nd .lf 26 ⟨.fn, 1, 8, [.nilf]⟩ .lf) 27 ⟨.slice 5, 1, 24, [.sl 1 [] .full]⟩ (.nd .lf 28 ⟨.fn, 1, 8, [.nilf]⟩ .lf)) 29 ⟨.fn, 1, 8, [.nilf]⟩ (.nd (.nd .lf 30 ⟨.slice 92, 1, 24, [.sl 3 [] .full]⟩ .lf) 31 ⟨.int .i64, 1, 8, [.d (.int .i64 0)]⟩ .lf)) 33 ⟨.fn, 1, 8, [.nilf]⟩ (.nd (.nd (.nd .lf 34 ⟨.fn, 1, 8, [.nilf]⟩ .lf) 36 ⟨.fn, 1, 8, [.nilf]⟩ (.nd .lf 37 ⟨.fn, 1, 8, [.nilf]⟩ .lf)) 38 ⟨.struct [(0, 1, false), (1, 1, false), (2, 1, false), (3, 1, false), (4, 1, false), (5, 1, false), (6, 1, false), (7, 1, false), (8, 1, false), (9, 1, false), (10, 1, false), (11, 1, false)], 12, 184, [.d (.int .i64 0), .d (.str []), .d (.str []), .d (.str []), .d (.str []), .d (.str []), .d (.str []), .d (.str []), .d (.str []), .d (.str []), .d (.str []), .d (.str [])]⟩ (.nd (.nd .lf 39 ⟨.struct [(0, 1, false), (1, 1, false), (2, 1, false), (3, 1, false), (4, 1, false), (5, 1, false), (6, 1, false), (7, 1, false), (8, 1, false), (9, 1, false), (10, 1, false), (11, 1, false)], 12, 184, [.d (.int .i64 0), .d (.str []), .d (.str []), .d (.str []), .d (.str []), .d (.str []), .d (.str []), .d (.str []), .d (.str []), .d (.str []), .d (.str []), .d (.str [])]⟩ .lf) 40 ⟨.fn, 1, 8, [.nilf]⟩ .lf)))) 41 ⟨.slice 50, 1, 24, [.sl 7 [] .full]⟩ (.nd (.nd (.nd (.nd (.nd .lf 42 ⟨.fn, 1, 8, [.nilf]⟩ .lf) 43 ⟨.slice 102, 1, 24, [.sl 2 [] .full]⟩ (.nd .lf 44 ⟨.fn, 1, 8, [.nilf]⟩ .lf)) 45 ⟨.slice 104, 1, 24, [.sl 5 [] .full]⟩ (.nd (.nd .lf 46 ⟨.fn, 1, 8, [.nilf]⟩ .lf) 47 ⟨.fn, 1, 8, [.nilf]⟩ .lf)) 48 ⟨.fn, 1, 8, [.nilf]⟩ (.nd (.nd (.nd .lf 49 ⟨.struct [(0, 1, false), (1, 1, false), (2, 1, false), (3, 1, false), (4, 1, false), (5, 1, false), (6, 1, false)], 7, 72, [.d (.int .i64 0), .d (.int .i64 0), .d (.int .i64 0), .d (.int .i64 0), .d (.int .i64 0), .d (.int .i64 0), .sl 1 [] .full]⟩ .lf) 50 ⟨.struct [(0, 1, false), (1, 1, false), (2, 1, false), (3, 1, false), (4, 1, false), (5, 1, false), (6, 1, false)], 7, 72, [.d (.int .i64 0), .d (.int .i64 0), .d (.int .i64 0), .d (.int .i64 0), .d (.int .i64 0), .d (.int .i64 0), .sl 1 [] .full]⟩ (.nd .lf 51 ⟨.fn, 1, 8, [.nilf]⟩ .lf)) 52 ⟨.fn, 1, 8, [.nilf]⟩ (.nd (.nd .lf 53 ⟨.fn, 1, 8, [.nilf]⟩ .lf) 55 ⟨.fn, 1, 8, [.nilf]⟩ .lf))) 56 ⟨.fn, 1, 8, [.nilf]⟩ (.nd (.nd (.nd (.nd .lf 57 ⟨.fn, 1, 8, [.nilf]⟩ .lf) 58 ⟨.fn, 1, 8, [.nilf]⟩ (.nd .lf 59 ⟨.fn, 1, 8, [.nilf]⟩ .lf)) 60 ⟨.fn, 1, 8, [.nilf]⟩ (.nd (.nd .lf 61 ⟨.fn, 1, 8, [.nilf]⟩ .lf) 62 ⟨.fn, 1, 8, [.nilf]⟩ .lf)) 63 ⟨.fn, 1, 8, [.nilf]⟩ (.nd (.nd (.nd .lf 65 ⟨.fn, 1, 8, [.nilf]⟩ .lf) 67 ⟨.fn, 1, 8, [.nilf]⟩ (.nd .lf 69 ⟨.fn, 1, 8, [.nilf]⟩ .lf)) 71 ⟨.fn, 1, 8, [.nilf]⟩ (.nd (.nd .lf 72 ⟨.fn, 1, 8, [.nilf]⟩ .lf) 74 ⟨.fn, 1, 8, [.nilf]⟩ .lf))))) 75 ⟨.slice 9, 1, 24, [.sl 1 [] .full]⟩ (.nd (.nd (.nd (.nd (.nd (.nd .lf 77 ⟨.fn, 1, 8, [.nilf]⟩ .lf) 78 ⟨.fn, 1, 8, [.nilf]⟩ (.nd .lf 79 ⟨.fn, 1, 8, [.nilf]⟩ .lf)) 80 ⟨.fn, 1, 8, [.nilf]⟩ (.nd (.nd .lf 81 ⟨.fn, 1, 8, [.nilf]⟩ .lf) 83 ⟨.fn, 1, 8, [.nilf]⟩ .lf)) 84 ⟨.struct [(0, 1, false), (1, 1, false)], 2, 32, [.sl 1 [] .full, .d (.int .i64 0)]⟩ (.nd (.nd (.nd .lf 85 ⟨.struct [(0, 1, false), (1, 1, false)], 2, 32, [.sl 1 [] .full, .d (.int .i64 0)]⟩ .lf) 86 ⟨.fn, 1, 8, [.nilf]⟩ (.nd .lf 87 ⟨.fn, 1, 8, [.nilf]⟩ .lf)) 88 ⟨.fn, 1, 8, [.nilf]⟩ (.nd (.nd .lf 90 ⟨.fn, 1, 8, [.nilf]⟩ .lf) 91 ⟨.struct [(0, 1, false), (1, 1, false), (2, 1, false)], 3, 56, [.d (.int .i64 0), .sl 1 [] .full, .sl 3 [] .full]⟩ .lf))) 92 ⟨.struct [(0, 1, false), (1, 1, false), (2, 1, false)], 3, 56, [.d (.int .i64 0), .sl 1 [] .full, .sl 3 [] .full]⟩ (.nd (.nd (.nd (.nd .lf 93 ⟨.int .u64, 1, 8, [.d (.int .u64 0)]⟩ .lf) 94 ⟨.fn, 1, 8, [.nilf]⟩ (.nd .lf 95 ⟨.fn, 1, 8, [.nilf]⟩ .lf)) 97 ⟨.fn, 1, 8, [.nilf]⟩ (.nd (.nd .lf 98 ⟨.fn, 1, 8, [.nilf]⟩ .lf) 99 ⟨.array 4 3, 4, 32, [.d (.int .i64 0), .d (.int .i64 0), .d (.int .i64 0), .d (.int .i64 0)]⟩ .lf)) 100 ⟨.fn, 1, 8, [.nilf]⟩ (.nd (.nd (.nd .lf 101 ⟨.struct [(0, 1, false), (1, 1, false)], 2, 24, [.d (.int .i64 0), .d (.str [])]⟩ .lf) 102 ⟨.struct [(0, 1, false), (1, 1, false)], 2, 24, [.d (.int .i64 0), .d (.str [])]⟩ (.nd .lf 103 ⟨.struct [(0, 1, false), (1, 1, false), (2, 1, false), (3, 1, false), (4, 1, false)], 5, 40, [.d (.int .i64 0), .d (.int .i64 0), .d (.int .i64 0), .d (.int .i64 0), .d (.int .i64 0)]⟩ .lf)) 104 ⟨.struct [(0, 1, false), (1, 1, false), (2, 1, false), (3, 1, false), (4, 1, false)], 5, 40, [.d (.int .i64 0), .d (.int .i64 0), .d (.int .i64 0), .d (.int .i64 0), .d (.int .i64 0)]⟩ (.nd (.nd .lf 105 ⟨.fn, 1, 8, [.nilf]⟩ .lf) 106 ⟨.fn, 1, 8, [.nilf]⟩ .lf)))) 107 ⟨.fn, 1, 8, [.nilf]⟩ (.nd (.nd (.nd (.nd (.nd .lf 108 ⟨.fn, 1, 8, [.nilf]⟩ .lf) 109 ⟨.fn, 1, 8, [.nilf]⟩ (.nd .lf 110 ⟨.fn, 1, 8, [.nilf]⟩ .lf)) 111 ⟨.fn, 1, 8, [.nilf]⟩ (.nd (.nd .lf 112 ⟨.fn, 1, 8, [.nilf]⟩ .lf) 113 ⟨.fn, 1, 8, [.nilf]⟩ .lf)) 114 ⟨.array 18 3, 18, 144, [.d (.int .i64 0), .d (.int .i64 0), .d (.int .i64 0), .d (.int .i64 0), .d (.int .i64 0), .d (.int .i64 0), .d (.int .i64 0), .d (.int .i64 0), .d (.int .i64 0), .d (.int .i64 0), .d (.int .i64 0), .d (.int .i64 0), .d (.int .i64 0), .d (.int .i64 0), .d (.int .i64 0), .d (.int .i64 0), .d (.int .i64 0), .d (.int .i64 0)]⟩ (.nd (.nd (.nd .lf 115 ⟨.fn, 1, 8, [.nilf]⟩ .lf) 116 ⟨.fn, 1, 8, [.nilf]⟩ (.nd .lf 117 ⟨.fn, 1, 8, [.nilf]⟩ .lf)) 118 ⟨.fn, 1, 8, [.nilf]⟩ (.nd (.nd .lf 119 ⟨.fn, 1, 8, [.nilf]⟩ .lf) 120 ⟨.fn, 1, 8, [.nilf]⟩ .lf))) 122 ⟨.fn, 1, 8, [.nilf]⟩ (.nd (.nd (.nd (.nd .lf 123 ⟨.fn, 1, 8, [.nilf]⟩ .lf) 124 ⟨.fn, 1, 8, [.nilf]⟩ (.nd .lf 125 ⟨.fn, 1, 8, [.nilf]⟩ .lf)) 127 ⟨.fn, 1, 8, [.nilf]⟩ (.nd (.nd .lf 128 ⟨.fn, 1, 8, [.nilf]⟩ .lf) 129 ⟨.array 2 9, 2, 32, [.d (.str []), .d (.str [])]⟩ .lf)) 130 ⟨.fn, 1, 8, [.nilf]⟩ (.nd (.nd (.nd .lf 131 ⟨.fn, 1, 8, [.nilf]⟩ .lf) 132 ⟨.fn, 1, 8, [.nilf]⟩ (.nd .lf 133 ⟨.fn, 1, 8, [.nilf]⟩ .lf)) 134 ⟨.fn, 1, 8, [.nilf]⟩ (.nd (.nd .lf 135 ⟨.fn, 1, 8, [.nilf]⟩ .lf) 137 ⟨.fn, 1, 8, [.nilf]⟩ .lf)))))) 138 ⟨.fn, 1, 8, [.nilf]⟩ (.nd (.nd (.nd (.nd (.nd (.nd (.nd .lf 139 ⟨.struct [(0, 1, false), (1, 1, false), (2, 1, false), (3, 1, false)], 4, 48, [.sl 1 [] .full, .d (.int .i64 0), .d (.bool false), .d (.int .i64 0)]⟩ .lf) 140 ⟨.struct [(0, 1, false), (1, 1, false), (2, 1, false), (3, 1, false)], 4, 48, [.sl 1 [] .full, .d (.int .i64 0), .d (.bool false), .d (.int .i64 0)]⟩ (.nd .lf 141 ⟨.fn, 1, 8, [.nilf]⟩ .lf)) 142 ⟨.array 8 9, 8, 128, [.d (.str []), .d (.str []), .d (.str []), .d (.str []), .d (.str []), .d (.str []), .d (.str []), .d (.str [])]⟩ (.nd (.nd .lf 144 ⟨.fn, 1, 8, [.nilf]⟩ .lf) 145 ⟨.struct [(0, 1, false), (1, 1, false), (2, 1, false)], 3, 24, [.d (.int .i64 0), .d (.int .i64 0), .d (.int .i64 0)]⟩ .lf)) 146 ⟨.struct [(0, 1, false), (1, 1, false), (2, 1, false)], 3, 24, [.d (.int .i64 0), .d (.int .i64 0), .d (.int .i64 0)]⟩ (.nd (.nd (.nd .lf 147 ⟨.array 15 146, 45, 360, [.d (.int .i64 0), .d (.int .i64 0), .d (.int .i64 0), .d (.int .i64 0), .d (.int .i64 0), .d (.int .i64 0), .d (.int .i64 0), .d (.int .i64 0), .d (.int .i64 0), .d (.int .i64 0), .d (.int .i64 0), .d (.int .i64 0), .d (.int .i64 0), .d (.int .i64 0), .d (.int .i64 0), .d (.int .i64 0), .d (.int .i64 0), .d (.int .i64 0), .d (.int .i64 0), .d (.int .i64 0), .d (.int .i64 0), .d (.int .i64 0), .d (.int .i64 0), .d (.int .i64 0), .d (.int .i64 0), .d (.int .i64 0), .d (.int .i64 0), .d (.int .i64 0), .d (.int .i64 0), .d (.int .i64 0), .d (.int .i64 0), .d (.int .i64 0), .d (.int .i64 0), .d (.int .i64 0), .d (.int .i64 0), .d (.int .i64 0), .d (.int .i64 0), .d (.int .i64 0), .d (.int .i64 0), .d (.int .i64 0), .d (.int .i64 0), .d (.int .i64 0), .d (.int .i64 0), .d (.int .i64 0), .d (.int .i64 0)]⟩ .lf) 149 ⟨.fn, 1, 8, [.nilf]⟩ (.nd .lf 150 ⟨.ptr, 1, 8, [.nilp]⟩ .lf)) 151 ⟨.slice 27, 1, 24, [.sl 1 [] .full]⟩ (.nd (.nd .lf 152 ⟨.struct [(0, 45, true), (45, 1, false)], 46, 384, [.d (.int .i64 0), .d (.int .i64 0), .d (.int .i64 0), .d (.int .i64 0), .d (.int .i64 0), .d (.int .i64 0), .d (.int .i64 0), .d (.int .i64 0), .d (.int .i64 0), .d (.int .i64 0), .d (.int .i64 0), .d (.int .i64 0), .d (.int .i64 0), .d (.int .i64 0), .d (.int .i64 0), .d (.int .i64 0), .d (.int .i64 0), .d (.int .i64 0), .d (.int .i64 0), .d (.int .i64 0), .d (.int .i64 0), .d (.int .i64 0), .d (.int .i64 0), .d (.int .i64 0), .d (.int .i64 0), .d (.int .i64 0), .d (.int .i64 0), .d (.int .i64 0), .d (.int .i64 0), .d (.int .i64 0), .d (.int .i64 0), .d (.int .i64 0), .d (.int .i64 0), .d (.int .i64 0), .d (.int .i64 0), .d (.int .i64 0), .d (.int .i64 0), .d (.int .i64 0), .d (.int .i64 0), .d (.int .i64 0), .d (.int .i64 0), .d (.int .i64 0), .d (.int .i64 0), .d (.int .i64 0), .d (.int .i64 0), .sl 1 [] .full]⟩ .lf) 153 ⟨.struct [(0, 45, true), (45, 1, false)], 46, 384, [.d (.int .i64 0), .d (.int .i64 0), .d (.int .i64 0), .d (.int .i64 0), .d (.int .i64 0), .d (.int .i64 0), .d (.int .i64 0), .d (.int .i64 0), .d (.int .i64 0), .d (.int .i64 0), .d (.int .i64 0), .d (.int .i64 0), .d (.int .i64 0), .d (.int .i64 0), .d (.int .i64 0), .d (.int .i64 0), .d (.int .i64 0), .d (.int .i64 0), .d (.int .i64 0), .d (.int .i64 0), .d (.int .i64 0), .d (.int .i64 0), .d (.int .i64 0), .d (.int .i64 0), .d (.int .i64 0), .d (.int .i64 0), .d (.int .i64 0), .d (.int .i64 0), .d (.int .i64 0), .d (.int .i64 0), .d (.int .i64 0), .d (.int .i64 0), .d (.int .i64 0), .d (.int .i64 0), .d (.int .i64 0), .d (.int .i64 0), .d (.int .i64 0), .d (.int .i64 0), .d (.int .i64 0), .d (.int .i64 0), .d (.int .i64 0), .d (.int .i64 0), .d (.int .i64 0), .d (.int .i64 0), .d (.int .i64 0), .sl 1 [] .full]⟩ .lf))) 155 ⟨.fn, 1, 8, [.nilf]⟩ (.nd (.nd (.nd (.nd .lf 156 ⟨.fn, 1, 8, [.nilf]⟩ .lf) 157 ⟨.fn, 1, 8, [.nilf]⟩ (.nd .lf 158 ⟨.fn, 1, 8, [.nilf]⟩ .lf)) 159 ⟨.fn, 1, 8, [.nilf]⟩ (.nd (.nd .lf 160 ⟨.fn, 1, 8, [.nilf]⟩ .lf) 161 ⟨.fn, 1, 8, [.nilf]⟩ .lf)) 162 ⟨.fn, 1, 8, [.nilf]⟩ (.nd (.nd (.nd .lf 163 ⟨.fn, 1, 8, [.nilf]⟩ .lf) 164 ⟨.fn, 1, 8, [.nilf]⟩ (.nd .lf 165 ⟨.fn, 1, 8, [.nilf]⟩ .lf)) 166 ⟨.fn, 1, 8, [.nilf]⟩ (.nd (.nd .lf 167 ⟨.fn, 1, 8, [.nilf]⟩ .lf) 168 ⟨.fn, 1, 8, [.nilf]⟩ .lf)))) 170 ⟨.fn, 1, 8, [.nilf]⟩ (.nd (.nd (.nd (.nd (.nd .lf 172 ⟨.fn, 1, 8, [.nilf]⟩ .lf) 173 ⟨.fn, 1, 8, [.nilf]⟩ (.nd .lf 175 ⟨.fn, 1, 8, [.nilf]⟩ .lf)) 176 ⟨.fn, 1, 8, [.nilf]⟩ (.nd (.nd .lf 177 ⟨.ptr, 1, 8, [.nilp]⟩ .lf) 179 ⟨.fn, 1, 8, [.nilf]⟩ .lf)) 180 ⟨.fn, 1, 8, [.nilf]⟩ (.nd (.nd (.nd .lf 181 ⟨.fn, 1, 8, [.nilf]⟩ .lf) 182 ⟨.fn, 1, 8, [.nilf]⟩ (.nd .lf 183 ⟨.fn, 1, 8, [.nilf]⟩ .lf)) 184 ⟨.fn, 1, 8, [.nilf]⟩ (.nd (.nd .lf 185 ⟨.array 3 3, 3, 24, [.d (.int .i64 0), .d (.int .i64 0), .d (.int .i64 0)]⟩ .lf) 186 ⟨.fn, 1, 8, [.nilf]⟩ .lf))) 187 ⟨.fn, 1, 8, [.nilf]⟩ (.nd (.nd (.nd (.nd .lf 188 ⟨.ptr, 1, 8, [.nilp]⟩ .lf) 190 ⟨.fn, 1, 8, [.nilf]⟩ (.nd .lf 191 ⟨.fn, 1, 8, [.nilf]⟩ .lf)) 193 ⟨.fn, 1, 8, [.nilf]⟩ (.nd (.nd .lf 194 ⟨.ptr, 1, 8, [.nilp]⟩ .lf) 195 ⟨.struct [(0, 1, false), (1, 1, false)], 2, 32, [.nilp, .sl 1 [] .full]⟩ .lf)) 196 ⟨.struct [(0, 1, false), (1, 1, false)], 2, 32, [.nilp, .sl 1 [] .full]⟩ (.nd (.nd (.nd .lf 197 ⟨.fn, 1, 8, [.nilf]⟩ .lf) 201 ⟨.fn, 1, 8, [.nilf]⟩ (.nd .lf 202 ⟨.fn, 1, 8, [.nilf]⟩ .lf)) 203 ⟨.struct [(0, 1, false), (1, 1, false)], 2, 16, [.d (.int .i64 0), .d (.int .i64 0)]⟩ (.nd (.nd .lf 204 ⟨.struct [(0, 1, false), (1, 1, false)], 2, 16, [.d (.int .i64 0), .d (.int .i64 0)]⟩ .lf) 205 ⟨.slice 204, 1, 24, [.sl 2 [] .full]⟩ .lf))))) 206 ⟨.fn, 1, 8, [.nilf]⟩ (.nd (.nd (.nd (.nd (.nd (.nd .lf 207 ⟨.fn, 1, 8, [.nilf]⟩ .lf) 208 ⟨.fn, 1, 8, [.nilf]⟩ (.nd .lf 209 ⟨.fn, 1, 8, [.nilf]⟩ .lf)) 210 ⟨.fn, 1, 8, [.nilf]⟩ (.nd (.nd .lf 211 ⟨.fn, 1, 8, [.nilf]⟩ .lf) 212 ⟨.fn, 1, 8, [.nilf]⟩ .lf)) 213 ⟨.fn, 1, 8, [.nilf]⟩ (.nd (.nd (.nd .lf 214 ⟨.array 6 3, 6, 48, [.d (.int .i64 0), .d (.int .i64 0), .d (.int .i64 0), .d (.int .i64 0), .d (.int .i64 0), .d (.int .i64 0)]⟩ .lf) 215 ⟨.fn, 1, 8, [.nilf]⟩ (.nd .lf 216 ⟨.array 2 3, 2, 16, [.d (.int .i64 0), .d (.int .i64 0)]⟩ .lf)) 217 ⟨.array 4 216, 8, 64, [.d (.int .i64 0), .d (.int .i64 0), .d (.int .i64 0), .d (.int .i64 0), .d (.int .i64 0), .d (.int .i64 0), .d (.int .i64 0), .d (.int .i64 0)]⟩ (.nd (.nd .lf 218 ⟨.fn, 1, 8, [.nilf]⟩ .lf) 220 ⟨.fn, 1, 8, [.nilf]⟩ .lf))) 221 ⟨.fn, 1, 8, [.nilf]⟩ (.nd (.nd (.nd (.nd .lf 222 ⟨.struct [(0, 1, false), (1, 1, false), (2, 1, false)], 3, 24, [.d (.int .i64 0), .d (.int .i64 0), .nilp]⟩ .lf) 223 ⟨.struct [(0, 1, false), (1, 1, false), (2, 1, false)], 3, 24, [.d (.int .i64 0), .d (.int .i64 0), .nilp]⟩ (.nd .lf 224 ⟨.slice 223, 1, 24, [.sl 3 [] .full]⟩ .lf)) 225 ⟨.fn, 1, 8, [.nilf]⟩ (.nd (.nd .lf 226 ⟨.fn, 1, 8, [.nilf]⟩ .lf) 227 ⟨.fn, 1, 8, [.nilf]⟩ .lf)) 228 ⟨.fn, 1, 8, [.nilf]⟩ (.nd (.nd (.nd .lf 229 ⟨.int .u32, 1, 4, [.d (.int .u32 0)]⟩ .lf) 231 ⟨.fn, 1, 8, [.nilf]⟩ (.nd .lf 232 ⟨.int .u64, 1, 8, [.d (.int .u64 0)]⟩ .lf)) 234 ⟨.fn, 1, 8, [.nilf]⟩ (.nd (.nd .lf 235 ⟨.ptr, 1, 8, [.nilp]⟩ .lf) 236 ⟨.fn, 1, 8, [.nilf]⟩ .lf)))) 237 ⟨.fn, 1, 8, [.nilf]⟩ (.nd (.nd (.nd (.nd (.nd .lf 238 ⟨.array 2 5, 2, 2, [.d (.int .u8 0), .d (.int .u8 0)]⟩ .lf) 239 ⟨.array 7 238, 14, 14, [.d (.int .u8 0), .d (.int .u8 0), .d (.int .u8 0), .d (.int .u8 0), .d (.int .u8 0), .d (.int .u8 0), .d (.int .u8 0), .d (.int .u8 0), .d (.int .u8 0), .d (.int .u8 0), .d (.int .u8 0), .d (.int .u8 0), .d (.int .u8 0), .d (.int .u8 0)]⟩ (.nd .lf 240 ⟨.fn, 1, 8, [.nilf]⟩ .lf)) 241 ⟨.fn, 1, 8, [.nilf]⟩ (.nd (.nd .lf 245 ⟨.fn, 1, 8, [.nilf]⟩ .lf) 246 ⟨.fn, 1, 8, [.nilf]⟩ .lf)) 247 ⟨.ptr, 1, 8, [.nilp]⟩ (.nd (.nd (.nd .lf 248 ⟨.fn, 1, 8, [.nilf]⟩ .lf) 249 ⟨.fn, 1, 8, [.nilf]⟩ (.nd .lf 251 ⟨.fn, 1, 8, [.nilf]⟩ .lf)) 253 ⟨.fn, 1, 8, [.nilf]⟩ (.nd (.nd .lf 254 ⟨.fn, 1, 8, [.nilf]⟩ .lf) 255 ⟨.fn, 1, 8, [.nilf]⟩ .lf))) 256 ⟨.fn, 1, 8, [.nilf]⟩ (.nd (.nd (.nd (.nd .lf 257 ⟨.array 12 3, 12, 96, [.d (.int .i64 0), .d (.int .i64 0), .d (.int .i64 0), .d (.int .i64 0), .d (.int .i64 0), .d (.int .i64 0), .d (.int .i64 0), .d (.int .i64 0), .d (.int .i64 0), .d (.int .i64 0), .d (.int .i64 0), .d (.int .i64 0)]⟩ .lf) 258 ⟨.fn, 1, 8, [.nilf]⟩ (.nd .lf 259 ⟨.fn, 1, 8, [.nilf]⟩ .lf)) 260 ⟨.fn, 1, 8, [.nilf]⟩ (.nd (.nd .lf 262 ⟨.struct [(0, 1, false), (1, 1, false)], 2, 2, [.d (.int .u8 0), .d (.int .u8 0)]⟩ .lf) 263 ⟨.struct [(0, 1, false), (1, 1, false)], 2, 2, [.d (.int .u8 0), .d (.int .u8 0)]⟩ .lf)) 264 ⟨.array 16 263, 32, 32, [.d (.int .u8 0), .d (.int .u8 0), .d (.int .u8 0), .d (.int .u8 0), .d (.int .u8 0), .d (.int .u8 0), .d (.int .u8 0), .d (.int .u8 0), .d (.int .u8 0), .d (.int .u8 0), .d (.int .u8 0), .d (.int .u8 0), .d (.int .u8 0), .d (.int .u8 0), .d (.int .u8 0), .d (.int .u8 0), .d (.int .u8 0), .d (.int .u8 0), .d (.int .u8 0), .d (.int .u8 0), .d (.int .u8 0), .d (.int .u8 0), .d (.int .u8 0), .d (.int .u8 0), .d (.int .u8 0), .d (.int .u8 0), .d (.int .u8 0), .d (.int .u8 0), .d (.int .u8 0), .d (.int .u8 0), .d (.int .u8 0), .d (.int .u8 0)]⟩ (.nd (.nd (.nd .lf 265 ⟨.fn, 1, 8, [.nilf]⟩ .lf) 266 ⟨.struct [(0, 1, false), (1, 1, false), (2, 1, false), (3, 1, false)], 4, 40, [.nilp, .nilp, .nilp, .d (.str [])]⟩ (.nd .lf 268 ⟨.array 0 16, 0, 0, []⟩ .lf)) 269 ⟨.struct [(0, 0, true)], 0, 0, []⟩ (.nd (.nd .lf 273 ⟨.fn, 1, 8, [.nilf]⟩ .lf) 276 ⟨.struct [(0, 1, false), (1, 1, false), (2, 1, false), (3, 1, false), (4, 1, false), (5, 1, false), (6, 1, false), (7, 1, false), (8, 1, false), (9, 1, false), (10, 1, false)], 11, 48, [.d (.int .u64 0), .d (.int .u64 0), .d (.int .u32 0), .d (.int .u8 0), .d (.int .u8 0), .d (.int .u8 0), .d (.int .u8 0), .nilf, .nilp, .d (.int .i32 0), .d (.int .i32 0)]⟩ .lf)))))))
theorem hT : TOk Tryz.prog T := ⟨by kernel_rfl⟩
theorem mixed : Tryz.prog.follows .mixedOrders = true := by kernel_rfl
end Tdoc
/- A law's statement out of its contract: the world before the call as a ghost state, the reading behind the call. No program is named here. -/
set_option linter.unusedSimpArgs false
set_option linter.unusedVariables false
namespace Tdoc
open Go Go.ChangeShapes Go.WideShapes Go.ChangeAt Go.RowKit

/-- All that lies in memory before the call counts as data that does not turn. -/
def GW (W : World) : Gh := ⟨fun a => W.cell? a, fun _ => none, fun _ _ => none, fun _ => none⟩

theorem WRel_start (W : World) (ht : TabOk W (GW W)) : WRel ⟨W, GW W, ht⟩ (GW W) [] W where
  le := .refl _
  imm := fun _ _ h => h
  immNew := fun _ _ h => .inl h
  keep := fun _ _ => rfl
  size := Nat.le_refl _
  os := rfl
  tape := rfl
  output := rfl
  own := fun b i h => by cases h
  fresh := fun i _ => ⟨rfl, fun _ => rfl⟩
  obj := fun i o h => by simp at h

theorem law_calls {P : Program} {f : FuncId} {avs : List AV} {W : World} {vals : Array Value} (ht : TabOk W (GW W)) (hs : Spec P f avs [] (fun r h' => r = .d (.bool true) ∧ h' = [])) (hlen : vals.size = avs.length)
    (hrep : ∀ (j : Nat) (x : AV) (v : Value), avs[j]? = some x → vals[j]? = some v → RepA (GW W) x v) :
    Calls P f vals W (fun e W' => e = .returned (.bool true) ∧ Below W.heap.size W W') :=
  (hs.2 (GW W) W vals hlen hrep ht (WRel_start W ht)).mono fun e W' ⟨v, r, h', G', he, ⟨hr, hh⟩, _, _, _, hrp, hw⟩ => by
    subst hr
    rw [hrp.bool_inv] at he
    exact ⟨he, hw.os, hw.tape, hw.output, hw.size, fun k hk => hw.keep k ⟨hk, rfl⟩⟩

section
variable {H : Type} {enc : TypeId × Value → H} {P : Program}

theorem trodAll_below (hl : laidOutB P = true) {W W' : World} (hb : Below W.heap.size W W') {sp : Nat → Bool} :
    ∀ {ts : List TypeId} {vs : List Value} {ds : List (DataW H)} {ps : List MemPlace}, ts.all (fun t => P.readableRec t && decide (t < P.types.size)) = true →
      DataW.TrodAll enc P W 0 (fun _ => true) true ts vs ds ps → (∀ p ∈ ps, p.block < W.heap.size) → (∀ p ∈ ps, sp p.block = true) → DataW.TrodAll enc P W' 0 sp true ts vs ds ps
  | [], _, _, _, _, h, _, _ => by
    obtain ⟨rfl, rfl, rfl⟩ := trodAll_nil h
    exact trodAll_mk0
  | t :: ts, _, _, _, hr, h, hlt, hsp => by
    obtain ⟨v, vs1, d, ds1, a, b, rfl, rfl, rfl, h1, h2⟩ := trodAll_cons h
    simp only [List.all_cons, Bool.and_eq_true, decide_eq_true_eq] at hr
    exact trodAll_cons_mk (WideElems.Trod_stays hl hr.1.1 hr.1.2 h1 (fun x hx => hb.same (hlt x (by simp [hx]))) (fun x hx => hsp x (by simp [hx])))
      (trodAll_below hl hb (by simpa using hr.2) h2 (fun x hx => hlt x (by simp [hx])) (fun x hx => hsp x (by simp [hx])))

theorem law_post {f : Func} {s : ChangeSpec} {again : Bool} {W W' : World} {args : Array Value} {ds gs : List (DataW H)} {before : List MemPlace} {tb : TypeId} (hl : laidOutB P = true)
    (hr : f.params.toList.all (fun t => P.readableRec t && decide (t < P.types.size)) = true) (hres : f.resultTypes = #[tb]) (htb : P.underlying tb = some .bool) (hvars : s.vars = [])
    (hW : DataW.Whole enc P f.params.toList s.vars false W args.toList ds gs before) (hfn : s.fn H (ds ++ gs) = { results := [.lit (.bool true)], args := ds }) (hb : Below W.heap.size W W') :
    s.post enc P f false true false again W args (.bool true) W' := by
  have hW0 := hW
  have hlt := hW.lt
  obtain ⟨p, q, hA, hV, rfl, hfz, hnd⟩ := hW
  rw [hvars] at hV
  obtain ⟨rfl, rfl⟩ := trodVars_none hV
  have hargs : ∀ sp : Nat → Bool, (∀ x ∈ p ++ [], sp x.block = true) → DataW.TrodAll enc P W' 0 sp true f.params.toList args.toList (s.fn H (ds ++ [])).args p := by
    intro sp hsp
    rw [hfn]
    exact trodAll_below hl hb hr hA (fun x hx => hlt x (by simp [hx])) (fun x hx => hsp x (by simp [hx]))
  have hv : ∀ sp : Nat → Bool, DataW.TrodVars enc P W' sp s.vars (s.fn H (ds ++ [])).vars [] := by
    intro sp; rw [hfn, hvars]; rfl
  have hrs : ∀ (b : Nat) (sp : Nat → Bool) (hd : Bool), DataW.TrodAll enc P W' b sp hd f.resultTypes.toList ((Value.bool true).resultList f.resultTypes.size) (s.fn H (ds ++ [])).results [] := by
    intro b sp hd
    rw [hfn, hres]
    exact trodAll_cons_mk (shut_bool htb _) trodAll_mk0
  refine ⟨ds, [], p ++ [], [], p, [], hW0, hrs _ _ _, hargs _ (fun x hx => by simpa using hlt x hx), hv _, World.keptBut_mono (fun p hp => ⟨hp, ?_⟩) (hb.frame (· ∈ p ++ [])), fun _ => ?_⟩
  · exact Or.inr (Or.inl (by simpa using hp))
  · refine ⟨ok_one hres rfl (okWide_bool_mk htb _), _, _, ([] ++ p) ++ [], ⟨[] ++ p, [], trodAll_append (hargs _ (fun _ _ => rfl)) (hrs _ _ _), hv _, rfl, ?_, fun h => by cases h⟩, ?_⟩
    · intro b off hp
      rw [hb.frozen (p := ⟨b, off, none⟩) (hlt (.cell b off) (by simpa using hp))]
      exact hfz b off (by simpa using hp)
    · intro x hx _
      simpa using hx

/-! the arguments -/
theorem open_str {r : Reach} {b0 : Nat} {W : World} {t : TypeId} {v : Value} {d : DataW H} {ps : List MemPlace} (ht : P.underlying t = some .string) (hval : Value.okWide P W r b0 t v)
    (hd : DataW.Trod enc P W 0 (fun _ => true) true t v d ps) : ∃ s : List UInt8, s.length ≤ maxLen ∧ RepA (GW W) (.d (.str s)) v := by
  obtain ⟨s, rfl, _, _, h⟩ := Go.ChangeMaps.open_string ht hval hd
  obtain ⟨⟨l⟩⟩ := s
  exact ⟨l, by simpa [ByteArray.size] using h, .d (.str l)⟩

theorem open_num {r : Reach} {b0 : Nat} {W : World} {t : TypeId} {k : IntKind} {v : Value} {d : DataW H} {ps : List MemPlace} (ht : P.underlying t = some (.int k)) (hval : Value.okWide P W r b0 t v)
    (hd : DataW.Trod enc P W 0 (fun _ => true) true t v d ps) : ∃ n : Int, (Lit.int k n).wf = true ∧ RepA (GW W) (.d (.int k n)) v := by
  obtain ⟨a0, rfl, rfl, rfl, w0⟩ := open_int ht hval hd
  exact ⟨a0, w0, .d (.int k a0)⟩

theorem open_flag {r : Reach} {b0 : Nat} {W : World} {t : TypeId} {v : Value} {d : DataW H} {ps : List MemPlace} (ht : P.underlying t = some .bool) (hval : Value.okWide P W r b0 t v)
    (hd : DataW.Trod enc P W 0 (fun _ => true) true t v d ps) : ∃ b : Bool, RepA (GW W) (.d (.bool b)) v := by
  obtain ⟨b, rfl, rfl, rfl⟩ := open_bool ht hval hd
  exact ⟨b, .d (.bool b)⟩

/-- A list of numbers as abstract data. -/
def numsD (k : IntKind) (zs : List Int) : List (List Dat) := zs.map fun n => [.int k n]

theorem RepD_nums {W : World} {k : IntKind} {a : Addr} {len cap : Nat} {zs : List Int} (hs : a.spot = none) (hlc : len ≤ cap) (hl : len ≤ zs.length) (hcell : ∀ i, i < zs.length → W.cell? (a.add i) = some (.int k (zs.getD i 0))) :
    RepD (GW W).imm (.sl 1 (numsD k (zs.take len))) (.slice (some a) len cap) := by
  have hz : (numsD k (zs.take len)).length = len := by simp [numsD]; omega
  have h := RepD.sl (m := (GW W).imm) 1 (numsD k (zs.take len)) a cap (fun j => .int k (zs.getD j 0)) hs (by omega) (fun e he => ?_) (fun i e j d he hd => ?_) (fun i e j d he hd => ?_)
  · rw [hz] at h; exact h
  · simp only [numsD, List.mem_map] at he
    obtain ⟨n, _, rfl⟩ := he; rfl
  · have hi : i < len := by rw [← hz]; exact (List.getElem?_eq_some_iff.1 he).1
    simp only [numsD, List.getElem?_map, Option.map_eq_some_iff] at he
    obtain ⟨n, hn, rfl⟩ := he
    cases j with
    | zero => simpa [GW] using hcell i (by omega)
    | succ j => simp at hd
  · have hi : i < len := by rw [← hz]; exact (List.getElem?_eq_some_iff.1 he).1
    simp only [numsD, List.getElem?_map, Option.map_eq_some_iff] at he
    obtain ⟨n, hn, rfl⟩ := he
    cases j with
    | zero =>
      simp only [List.getElem?_cons_zero, Option.some.injEq] at hd
      subst hd
      rw [List.getElem?_take] at hn
      simp only [hi, if_true] at hn
      have : zs.getD (i * 1 + 0) 0 = n := by simp [List.getD, hn]
      simp only [this]
      exact .int k n
    | succ j => simp at hd

theorem open_nums {r : Reach} {b0 : Nat} {W : World} {t e : TypeId} {k : IntKind} {v : Value} {d : DataW H} {ps : List MemPlace} (ht : P.underlying t = some (.slice e)) (he : P.underlying e = some (.int k))
    (hc : P.cellsOf e = 1) (hval : Value.okWide P W r b0 t v)
    (hd : DataW.Trod enc P W 0 (fun _ => true) true t v d ps) : ∃ zs : List Int, (∀ n, n ∈ zs → (Lit.int k n).wf = true) ∧ zs.length ≤ maxLen ∧ RepA (GW W) (.d (.sl 1 (numsD k zs))) v := by
  obtain ⟨a0, len0, cap0, rfl⟩ := okWide_slice ht hval
  obtain ⟨fuel, hf⟩ := hd
  rcases open_ints ht he hc hf with ⟨h1, h2⟩ | ⟨a, len, cap, zs, h1, h2, h3, h4, h5, h6, h7, h8⟩
  · simp [Value.cells] at h1
    obtain ⟨rfl, rfl, rfl⟩ := h1
    exact ⟨[], by simp, by simp, .d (.nil 1)⟩
  · simp [Value.cells] at h1
    obtain ⟨rfl, rfl, rfl⟩ := h1
    simp only [if_true] at h5
    have hsp : a.spot = none := by
      simp only [Value.okWide, ht, Cell.okWide, Cell.ok] at hval
      exact hval.2.2.2.1
    exact ⟨zs.take len0, fun n hn => h8 n (List.mem_of_mem_take hn), by simp; omega, .d (RepD_nums hsp h3 (by omega) h7)⟩
end
end Tdoc
/- Walks: each of them by one short step, whose default does it. No program is named here but the seat's table of types. -/
set_option linter.unusedVariables false
namespace Tdoc
open Go Go.Proofs

/-- A goal to come, out of the reach of steps that look for an assumption. -/
structure Box (p : Prop) : Prop where
  out : p
theorem ww {g n : Prop} (k : n) (h : Box n → g := by intro hk; (repeat (first | refine wk hT rfl rfl ?_ | refine wd hT rfl rfl rfl ?_ | refine wz hT rfl ?_ | refine AWd_nil ?_ | refine AWk_nil ?_ | refine wh hT rfl rfl rfl rfl ?_ | refine wg hT rfl rfl rfl rfl rfl ?_ | refine AW_seq ?_ | refine AW_region ?_ | refine wx mixed ?_ | refine AW_block ?_ | refine AW_skip ?_ | refine AW_exit ?_ | refine AW_ret ?_)); exact hk.out) : g := h ⟨k⟩
theorem wwn {g n : Prop} (k : n) (h : Box n → g := by intro hk; (repeat (first | refine wk hT rfl rfl ?_ | refine wd hT rfl rfl rfl ?_ | refine wz hT rfl ?_ | refine AWd_nil ?_ | refine AWk_nil ?_ | refine wh hT rfl rfl rfl rfl ?_ | refine wg hT rfl rfl rfl rfl rfl ?_ | refine AW_seq ?_ | refine AW_region ?_ | refine AW_block ?_ | refine AW_skip ?_ | refine AW_exit ?_ | refine AW_ret ?_)); exact hk.out) : g := h ⟨k⟩
theorem wwg {g n : Prop} (k : n) (h : Box n → g := by intro hk; (repeat (first | refine AWg_load hT rfl rfl rfl rfl (by first | exact List.mem_cons_self | exact sm) rfl ?_ | refine AWg_pure hT (fun _ => rfl) rfl rfl (by first | exact True.intro | omega | exact sd) ?_ | refine AWg_store hT rfl rfl rfl (by first | exact List.mem_cons_self | exact sm) rfl ?_ | refine AWd_nil ?_)); exact hk.out) : g := h ⟨k⟩
theorem wws {g n : Prop} (k : n) (h : Box n → g := by intro hk; (repeat (first | refine wk hT rfl rfl ?_ | refine wd hT rfl rfl rfl ?_ | refine wz hT rfl ?_ | refine AWd_nil ?_ | refine AWk_nil ?_ | refine wh hT rfl rfl rfl rfl ?_ | refine wg hT rfl rfl rfl rfl rfl ?_)); exact hk.out) : g := h ⟨k⟩
theorem wwe {g n : Prop} (k : n) (h : Box n → g := by intro hk; (repeat (first | refine AW_exit ?_ | refine AW_skip ?_)); exact hk.out) : g := h ⟨k⟩
theorem wwr {g : Prop} (h : g := by (first | exact rx ⟨rfl, rfl⟩ | exact rxN ⟨rfl, rfl⟩ | (refine rq ⟨rfl, rfl⟩ rfl ?_; repeat (first | exact trivial | exact AV.le.refl _ | exact AV.le.dat | exact AV.le.nils | exact AV.le.nilsf | exact AV.le.any _ | exact ObLe.refl _ | exact ⟨rfl, rfl⟩ | refine AV.le.tup ?_ | refine AV.le.agg ?_ | exact li | exact lb | exact ls | exact lk | exact ld | exact lz | refine ⟨?_, ?_⟩)) | (refine rqN ⟨rfl, rfl⟩ rfl ?_; repeat (first | exact trivial | exact AV.le.refl _ | exact AV.le.dat | exact AV.le.nils | exact AV.le.nilsf | exact AV.le.any _ | exact ObLe.refl _ | exact ⟨rfl, rfl⟩ | refine AV.le.tup ?_ | refine AV.le.agg ?_ | exact li | exact lb | exact ls | exact lk | exact ld | exact lz | refine ⟨?_, ?_⟩)))) : g := h
theorem wwc {A g n : Prop} (S : A) (k : n) (h : A → Box n → g := by intro S hk; (first | refine AWk_op (callS0 rfl rfl (S) rfl rfl rfl) rfl ?_ | refine AWd_op (callS0 rfl rfl (S) rfl rfl rfl) rfl rfl ?_ | refine AWk_op (callS0L rfl rfl (S) rfl (by repeat (first | exact trivial | exact AV.le.refl _ | exact AV.le.dat | exact AV.le.nils | exact AV.le.nilsf | exact AV.le.any _ | exact ObLe.refl _ | exact ⟨rfl, rfl⟩ | refine AV.le.tup ?_ | refine AV.le.agg ?_ | exact li | exact lb | exact ls | exact lk | exact ld | exact lz | refine ⟨?_, ?_⟩)) rfl rfl) rfl ?_ | refine AWd_op (callS0L rfl rfl (S) rfl (by repeat (first | exact trivial | exact AV.le.refl _ | exact AV.le.dat | exact AV.le.nils | exact AV.le.nilsf | exact AV.le.any _ | exact ObLe.refl _ | exact ⟨rfl, rfl⟩ | refine AV.le.tup ?_ | refine AV.le.agg ?_ | exact li | exact lb | exact ls | exact lk | exact ld | exact lz | refine ⟨?_, ?_⟩)) rfl rfl) rfl rfl ?_); exact hk.out) : g := h S ⟨k⟩
theorem wwx {A g n : Prop} (S : A) (k : n) (h : A → Box n → g := by intro S hk; (refine AWk_opX (callX0 rfl rfl (S) rfl (by repeat (first | exact trivial | exact AV.le.refl _ | exact AV.le.dat | exact AV.le.nils | exact AV.le.nilsf | exact AV.le.any _ | exact ObLe.refl _ | exact ⟨rfl, rfl⟩ | refine AV.le.tup ?_ | refine AV.le.agg ?_ | exact li | exact lb | exact ls | exact lk | exact ld | exact lz | refine ⟨?_, ?_⟩)) rfl (fun _ => rfl)) rfl ?_); exact hk.out) : g := h S ⟨k⟩
theorem wwgc {A g n : Prop} (S : A) (k : n) (h : A → Box n → g := by intro S hk; (first | refine AWk_gop rfl rfl rfl (fun hg => ⟨(sg (C := True) hg).1, callS0 rfl rfl (S) rfl rfl rfl⟩) ?_ | refine AWd_gop rfl rfl rfl rfl (fun hg => ⟨(sg (C := True) hg).1, callS0 rfl rfl (S) rfl rfl rfl⟩) ?_); exact hk.out) : g := h S ⟨k⟩
theorem wwdc {A g n : Prop} (S : A) (k : n) (h : A → Box n → g := by intro S hk; (first | refine AWg_op (os := []) (fun k hk1 hk2 => callS0 rfl rfl (S) rfl rfl rfl) rfl ?_ | refine AWg_op (os := []) (fun k hk1 hk2 => callS0L rfl rfl (S) rfl (by repeat (first | exact trivial | exact AV.le.refl _ | exact AV.le.dat | exact AV.le.nils | exact AV.le.nilsf | exact AV.le.any _ | exact ObLe.refl _ | exact ⟨rfl, rfl⟩ | refine AV.le.tup ?_ | refine AV.le.agg ?_ | exact li | exact lb | exact ls | exact lk | exact ld | exact lz | refine ⟨?_, ?_⟩)) rfl rfl) rfl ?_); exact hk.out) : g := h S ⟨k⟩
theorem wwi {A g n : Prop} (S : A) (k : n) (h : A → Box n → g := by intro S hk; (first | refine AWk_op (OpS_of_pure (indexAddr_ok hT rfl rfl rfl rfl (by omega) (S))) rfl ?_ | refine AWd_op (OpS_of_pure (indexAddr_ok hT rfl rfl rfl rfl (by omega) (S))) rfl rfl ?_); exact hk.out) : g := h S ⟨k⟩
theorem wwgi {A g n : Prop} (S : A) (k : n) (h : A → Box n → g := by intro S hk; (first | refine AWk_gop rfl rfl rfl (fun hg => ⟨(sg (C := True) hg).1, OpS_of_pure (indexAddr_ok hT rfl rfl rfl rfl (by omega) (S))⟩) ?_ | refine AWd_gop rfl rfl rfl rfl (fun hg => ⟨(sg (C := True) hg).1, OpS_of_pure (indexAddr_ok hT rfl rfl rfl rfl (by omega) (S))⟩) ?_); exact hk.out) : g := h S ⟨k⟩
end Tdoc
/- Objects with tags as data; which tags there are; what the program's check says; encodings. Plain. -/
set_option linter.unusedVariables false
set_option linter.unusedSimpArgs false
namespace Tdoc
open Go Go.Proofs

/-- Bytes as elements. -/
def encB (s : List UInt8) : List (List Dat) := s.map fun b => [.int .u8 (b.toNat : Int)]
theorem encB_length (s : List UInt8) : (encB s).length = s.length := by simp [encB]
theorem encB_append (a b : List UInt8) : encB (a ++ b) = encB a ++ encB b := by simp [encB]
theorem encB_at {s : List UInt8} {i : Nat} (h : i < s.length) : (encB s)[i]? = some [.int .u8 (s[i].toNat : Int)] := by simp [encB, h]
theorem encB_take (s : List UInt8) (i : Nat) : (encB s).take i = encB (s.take i) := by simp [encB, List.map_take]
theorem encB_drop (s : List UInt8) (i : Nat) : (encB s).drop i = encB (s.drop i) := by simp [encB, List.map_drop]

inductive Node where
  | mk (tag : Int) (val : List UInt8) (kids : List Node)

mutual
def encN : Node → List Dat
  | .mk t v k => [.int .i64 t, .sl 1 (encB v), .sl 3 (encNs k)]
def encNs : List Node → List (List Dat)
  | [] => []
  | a :: l => encN a :: encNs l
end

def nAV (n : Node) : AV := .agg ((encN n).map .d)
theorem encNs_eq : ∀ (l : List Node), encNs l = l.map encN
  | [] => rfl
  | a :: l => by simp [encNs, encNs_eq l]
theorem encNs_length (l : List Node) : (encNs l).length = l.length := by rw [encNs_eq]; simp
theorem encNs_append (a b : List Node) : encNs (a ++ b) = encNs a ++ encNs b := by simp [encNs_eq]
theorem low_nAV (k : Nat) (n : Node) : low k (nAV n) = true := lowL_d (encN n)

/-! tags -/
def tagOk (t : Int) : Bool :=
  if t < 256 then decide (0 < t) && !(t % 32 == 31) else decide (t < 65536) && (t / 256 % 32 == 31) && decide (1 ≤ t % 256) && decide (t % 256 ≤ 127)
def tagCons (t : Int) : Bool := tagOk t && ((if t > 255 then t / 256 else t) / 32 % 2 == 1)
theorem tagOk_range {t : Int} (h : tagOk t = true) : 0 < t ∧ t < 65536 := by
  unfold tagOk at h
  split at h
  · simp at h; omega
  · simp at h; omega

/-! the check: an error's number, and how many objects were met -/
mutual
def chkN (d : Nat) : Node → Nat → Int × Nat
  | .mk t v k, c =>
    if tagOk t = false then (4, c + 1)
    else if (tagCons t = false ∧ k ≠ []) ∨ (tagCons t = true ∧ v ≠ []) then (1, c + 1)
    else if 8 < d then (7, c + 1)
    else chkL (d + 1) k (c + 1)
def chkL (d : Nat) : List Node → Nat → Int × Nat
  | [], c => (0, c)
  | a :: l, c => if (chkN d a c).1 = 0 then chkL d l (chkN d a c).2 else chkN d a c
end

mutual
def sizeN : Node → Nat
  | .mk _ _ k => 1 + sizeL k
def sizeL : List Node → Nat
  | [] => 0
  | a :: l => sizeN a + sizeL l
end

mutual
theorem chkN_count (d : Nat) : ∀ (n : Node) (c : Nat), (chkN d n c).2 ≤ c + sizeN n ∧ ((chkN d n c).1 = 0 → (chkN d n c).2 = c + sizeN n)
  | .mk t v k, c => by
    have hk := chkL_count (d + 1) k (c + 1)
    rw [chkN, sizeN]
    split
    · exact ⟨by simp only; omega, fun h => by simp at h⟩
    · split
      · exact ⟨by simp only; omega, fun h => by simp at h⟩
      · split
        · exact ⟨by simp only; omega, fun h => by simp at h⟩
        · exact ⟨by omega, fun h => by have := hk.2 h; omega⟩
theorem chkL_count (d : Nat) : ∀ (l : List Node) (c : Nat), (chkL d l c).2 ≤ c + sizeL l ∧ ((chkL d l c).1 = 0 → (chkL d l c).2 = c + sizeL l)
  | [], c => by simp [chkL, sizeL]
  | a :: l, c => by
    have ha := chkN_count d a c
    have hl := chkL_count d l (chkN d a c).2
    rw [chkL, sizeL]
    split
    · rename_i h0
      have := ha.2 h0
      exact ⟨by omega, fun h => by have := hl.2 h; omega⟩
    · rename_i h0
      exact ⟨by omega, fun h => absurd h h0⟩
end

/-! encodings -/
def digL : Nat → Nat → List UInt8
  | 0, _ => []
  | m + 1, n => if n = 0 then [] else UInt8.ofNat (n % 256) :: digL m (n / 256)
theorem digL_zero (m : Nat) : digL m 0 = [] := by cases m <;> simp [digL]
theorem digL_length : ∀ (m n : Nat), (digL m n).length ≤ m
  | 0, _ => Nat.le_refl _
  | m + 1, n => by
    rw [digL]
    split
    · simp
    · have := digL_length m (n / 256); simp; omega
def digs (m n : Nat) : List UInt8 := (digL m n).reverse
def lenB (n : Nat) : List UInt8 := if n < 128 then [UInt8.ofNat n] else UInt8.ofNat (128 + (digs 8 n).length) :: digs 8 n
def tagB (t : Int) : List UInt8 := if t > 255 then [UInt8.ofNat (t / 256 % 256).toNat, UInt8.ofNat (t % 256).toNat] else [UInt8.ofNat (t % 256).toNat]

mutual
def wrN : Node → List UInt8
  | .mk t v k => tagB t ++ lenB (if tagCons t = true then wrL k else v).length ++ (if tagCons t = true then wrL k else v)
def wrL : List Node → List UInt8
  | [] => []
  | a :: l => wrN a ++ wrL l
end

def encodeP (l : List Node) : List UInt8 × Int :=
  if (chkL 1 l 0).1 ≠ 0 then ([], (chkL 1 l 0).1)
  else if (chkL 1 l 0).2 > 256 then ([], 2)
  else if (wrL l).length > 4096 then ([], 2)
  else (wrL l, 0)
end Tdoc
/- Tags of groups, their numbers and files; which numbers are tags of objects: the program and the reference. -/
set_option linter.unusedVariables false
set_option linter.unusedSimpArgs false
namespace Tdoc
open Go Go.Proofs

def tagTab : List Int := [97, 117, 99, 118, 101, 102, 103, 104, 105, 106, 107, 108, 109, 110, 111, 112, 96, 119]
def tagD : List Dat := tagTab.map fun x => .int .i64 x
def tagR (n : Int) : Int × Int := if n < 1 ∨ n > 18 then (0, 3) else ((tagTab[(n - 1).toNat]?).getD 0, 0)
/-- The number of a tag's group, from a place on. -/
def groupFrom (t : Int) : Nat → List Int → Int × Int
  | _, [] => (0, 4)
  | i, x :: r => if x = t then (((i + 1 : Nat) : Int), 0) else groupFrom t (i + 1) r
def groupR (t : Int) : Int × Int := groupFrom t 0 tagTab

theorem tagD_at {i : Nat} (h : i < 18) : ∃ x : Int, tagTab[i]? = some x ∧ (tagD.drop i)[0]? = some (.int .i64 x) ∧ tagTab.drop i = x :: tagTab.drop (i + 1) := by
  have h' : i < tagTab.length := by simpa [tagTab] using h
  exact ⟨tagTab[i], by simp [h'], by simp [tagD, h'], by simp [h']⟩

set_option maxRecDepth 100000 in
theorem Tag_spec (n : Int) (hw : -9223372036854775808 ≤ n ∧ n ≤ 9223372036854775807) : Spec Tryz.prog 127 [.d (.int .i64 n)] [] (fun r h' => r = .tup [.d (.int .i64 (tagR n).1), .d (.int .i64 (tagR n).2)] ∧ h' = []) := by
  refine Spec_of_body hT Tryz.func127 rfl rfl rfl rfl ?_
  intro E hE
  refine ww ?_
  refine AW_condL rfl (fun h1 => ?_) (fun h1 => ?_)
  · have h1' : n < 1 ∨ n > 18 := by simpa using h1
    rw [show tagR n = (0, 3) by unfold tagR; rw [if_pos h1']]
    refine ww ?_
    exact ret_exact rfl (.refl _) rfl rfl rfl rfl ⟨rfl, rfl⟩
  · have h1' : ¬ (n < 1 ∨ n > 18) := by simpa using h1
    have hwr : IntKind.i64.wrap (n - 1) = n - 1 := wrap_id (by omega)
    obtain ⟨x, hx, hd, _⟩ := tagD_at (i := (n - 1).toNat) (by omega)
    rw [show tagR n = (x, 0) by unfold tagR; rw [if_neg h1', hx]; rfl]
    refine ww ?_
    refine AWk_op (OpS_of_pure (arrAddr_ok (cs := tagD) hT rfl rfl rfl rfl (by rw [hwr]; omega))) rfl ?_
    rw [hwr, Nat.mul_one]
    generalize tagD.drop (n - 1).toNat = cs at hd
    match cs, hd with
    | d :: cs, hd =>
      simp only [List.getElem?_cons_zero, Option.some.injEq] at hd
      subst hd
      refine ww ?_
      exact ret_exact rfl (.refl _) rfl rfl rfl rfl ⟨rfl, rfl⟩

set_option maxRecDepth 100000 in
theorem TagR_spec (n : Int) (hw : -9223372036854775808 ≤ n ∧ n ≤ 9223372036854775807) : Spec Tryz.prog 108 [.d (.int .i64 n)] [] (fun r h' => r = .tup [.d (.int .i64 (tagR n).1), .d (.int .i64 (tagR n).2)] ∧ h' = []) := by
  refine Spec_of_body hT Tryz.func108 rfl rfl rfl rfl ?_
  intro E hE
  refine ww ?_
  refine AW_condL rfl (fun h1 => ?_) (fun h1 => ?_)
  · have h1' : n < 1 ∨ n > 18 := by simpa using h1
    rw [show tagR n = (0, 3) by unfold tagR; rw [if_pos h1']]
    refine ww ?_
    exact ret_exact rfl (.refl _) rfl rfl rfl rfl ⟨rfl, rfl⟩
  · have h1' : ¬ (n < 1 ∨ n > 18) := by simpa using h1
    have hwr : IntKind.i64.wrap (n - 1) = n - 1 := wrap_id (by omega)
    obtain ⟨x, hx, hd, _⟩ := tagD_at (i := (n - 1).toNat) (by omega)
    rw [show tagR n = (x, 0) by unfold tagR; rw [if_neg h1', hx]; rfl]
    refine ww ?_
    refine AWk_op (OpS_of_pure (arrAddr_ok (cs := tagD) hT rfl rfl rfl rfl (by rw [hwr]; omega))) rfl ?_
    rw [hwr, Nat.mul_one]
    generalize tagD.drop (n - 1).toNat = cs at hd
    match cs, hd with
    | d :: cs, hd =>
      simp only [List.getElem?_cons_zero, Option.some.injEq] at hd
      subst hd
      refine ww ?_
      exact ret_exact rfl (.refl _) rfl rfl rfl rfl ⟨rfl, rfl⟩

set_option maxHeartbeats 2000000 in
set_option maxRecDepth 100000 in
theorem Group_spec (t : Int) : Spec Tryz.prog 59 [.d (.int .i64 t)] [] (fun r h' => r = .tup [.d (.int .i64 (groupR t).1), .d (.int .i64 (groupR t).2)] ∧ h' = []) := by
  refine Spec_of_body hT Tryz.func59 rfl rfl rfl rfl ?_
  intro E hE
  unfold groupR
  generalize hfin : groupFrom t 0 tagTab = fin
  refine ww ?_
  refine AW_loopL (ι := Nat) (fun i => [(0, .d (.int .i64 t)), (6, .agg (tagD.map .d)), (7, .d (.int .i64 (i : Int)))]) (fun _ => []) (fun i => i ≤ 18 ∧ groupFrom t i (tagTab.drop i) = fin) (fun i => 18 - i) 0 ⟨by omega, hfin⟩
    ⟨.refl _, .refl _, .refl _, trivial⟩ (HLe.refl _) ?_
  intro i ⟨hi, hg⟩
  have hwr : IntKind.i64.wrap ((i : Int) + 1) = ((i + 1 : Nat) : Int) := by rw [wrap_id (by omega)]; simp
  refine ww ?_
  refine AW_condL rfl (fun h1 => ?_) (fun h1 => ?_)
  · have hlt : i < 18 := by have h3 : (i : Int) < 18 := by simpa using h1
                            omega
    obtain ⟨x, hx, _, hd⟩ := tagD_at hlt
    rw [hd, groupFrom] at hg
    have hxa : (tagD.map AV.d)[((i : Int)).toNat]? = some (.d (.int .i64 x)) := by simp [tagD, hx]
    refine ww ?_
    refine AWk_op (OpS_of_pure (arrIdx_ok (cs := tagD.map AV.d) hT rfl rfl rfl rfl (by omega) hxa)) rfl ?_
    refine ww ?_
    refine AW_condL rfl (fun h2 => ?_) (fun h2 => ?_)
    · have h2' : x = t := by simpa using h2
      rw [if_pos h2', ← hwr] at hg
      subst hg
      refine ww ?_
      exact ret_exact rfl (.refl _) rfl rfl rfl rfl ⟨rfl, rfl⟩
    · have h2' : ¬ x = t := by simpa using h2
      rw [if_neg h2'] at hg
      refine ww ?_
      exact ⟨i + 1, ⟨by omega, hg⟩, by omega, ⟨.refl _, .refl _, AV.le.eq (by show AV.d (.int .i64 (IntKind.i64.wrap ((i : Int) + 1))) = _; rw [hwr]), trivial⟩, HLe.refl _⟩
  · have hge : i = 18 := by simp at h1; omega
    subst hge
    subst hg
    refine ww ?_
    exact ret_exact rfl (.refl _) rfl rfl rfl rfl ⟨rfl, rfl⟩

set_option maxHeartbeats 2000000 in
set_option maxRecDepth 100000 in
theorem GroupR_spec (t : Int) : Spec Tryz.prog 141 [.d (.int .i64 t)] [] (fun r h' => r = .tup [.d (.int .i64 (groupR t).1), .d (.int .i64 (groupR t).2)] ∧ h' = []) := by
  refine Spec_of_body hT Tryz.func141 rfl rfl rfl rfl ?_
  intro E hE
  unfold groupR
  generalize hfin : groupFrom t 0 tagTab = fin
  refine ww ?_
  refine AW_loopL (ι := Nat) (fun i => [(0, .d (.int .i64 t)), (4, .d (.int .i64 (i : Int)))]) (fun _ => []) (fun i => i ≤ 18 ∧ groupFrom t i (tagTab.drop i) = fin) (fun i => 18 - i) 0 ⟨by omega, hfin⟩
    ⟨.refl _, .refl _, trivial⟩ (HLe.refl _) ?_
  intro i ⟨hi, hg⟩
  have hwr : IntKind.i64.wrap ((i : Int) + 1) = ((i + 1 : Nat) : Int) := by rw [wrap_id (by omega)]; simp
  refine ww ?_
  refine AW_condL rfl (fun h1 => ?_) (fun h1 => ?_)
  · have hlt : i < 18 := by have h3 : (i : Int) < 18 := by simpa using h1
                            omega
    obtain ⟨x, hx, hd0, hd⟩ := tagD_at hlt
    rw [hd, groupFrom] at hg
    refine ww ?_
    refine AWk_op (OpS_of_pure (arrAddr_ok (cs := tagD) hT rfl rfl rfl rfl (by omega))) rfl ?_
    rw [Int.toNat_natCast, Nat.mul_one]
    generalize tagD.drop i = cs at hd0
    match cs, hd0 with
    | d :: cs, hd0 =>
      simp only [List.getElem?_cons_zero, Option.some.injEq] at hd0
      subst hd0
      refine ww ?_
      refine AW_condL rfl (fun h2 => ?_) (fun h2 => ?_)
      · have h2' : x = t := by simpa using h2
        rw [if_pos h2', ← hwr] at hg
        subst hg
        refine ww ?_
        exact ret_exact rfl (.refl _) rfl rfl rfl rfl ⟨rfl, rfl⟩
      · have h2' : ¬ x = t := by simpa using h2
        rw [if_neg h2'] at hg
        refine ww ?_
        exact ⟨i + 1, ⟨by omega, hg⟩, by omega, ⟨.refl _, AV.le.eq (by show AV.d (.int .i64 (IntKind.i64.wrap ((i : Int) + 1))) = _; rw [hwr]), trivial⟩, HLe.refl _⟩
  · have hge : i = 18 := by simp at h1; omega
    subst hge
    subst hg
    refine ww ?_
    exact ret_exact rfl (.refl _) rfl rfl rfl rfl ⟨rfl, rfl⟩

def fileR (n : Int) : Int × Int × Int := if n < 1 ∨ n > 18 then (0, 0, 3) else if n = 17 then (286, 30, 0) else if n = 18 then (285, 29, 0) else (256 + n, n, 0)

end Tdoc
/- Which numbers are tags, and tags of constructed objects: the program and the reference. -/
set_option linter.unusedVariables false
set_option linter.unusedSimpArgs false
namespace Tdoc
open Go Go.Proofs

theorem andE (k : Nat) {n m : Nat} (hn : n < 9223372036854775808) (hm : m < 9223372036854775808) {q : Int} (hq : q = (m : Int)) :
    IntKind.i64.wrap ((BitVec.ofInt IntKind.i64.bits (n : Int) &&& BitVec.ofInt IntKind.i64.bits q).toNat : Int) = ((n &&& m : Nat) : Int) := by
  subst hq; exact and_nat hn hm

set_option maxRecDepth 100000 in
theorem long_spec (t : Int) (h0 : 0 ≤ t) (h1 : t ≤ 9223372036854775807) : Spec Tryz.prog 228 [.d (.int .i64 t)] [] (fun r h' => r = .d (.bool (t % 32 == 31)) ∧ h' = []) := by
  obtain ⟨n, rfl⟩ := Int.eq_ofNat_of_zero_le h0
  have hand := andE 0 (n := n) (m := 31) (q := 31) (by omega) (by omega) rfl
  have hm := mask_nat n 5
  have e : ((n : Int) % 32 == 31) = (IntKind.i64.wrap ((BitVec.ofInt IntKind.i64.bits (n : Int) &&& BitVec.ofInt IntKind.i64.bits 31).toNat : Int) == 31) := by
    rw [hand, show n &&& 31 = n % 32 from hm]; rfl
  rw [e]
  refine Spec_of_body hT Tryz.func228 rfl rfl rfl rfl ?_
  intro E hE
  refine ww ?_
  exact ret_exact rfl (.refl _) rfl rfl rfl rfl ⟨rfl, rfl⟩

set_option maxHeartbeats 2000000 in
set_option maxRecDepth 100000 in
theorem Valid_spec (t : Int) (hw : -9223372036854775808 ≤ t ∧ t ≤ 9223372036854775807) : Spec Tryz.prog 159 [.d (.int .i64 t)] [] (fun r h' => r = .d (.bool (tagOk t)) ∧ h' = []) := by
  refine Spec_of_body hT Tryz.func159 rfl rfl rfl rfl ?_
  intro E hE
  refine ww ?_
  refine AW_condL rfl (fun h1 => ?_) (fun h1 => ?_)
  · have h1' : t < 256 := by simpa using h1
    have hl := fun (h : 0 ≤ t) => long_spec t h (by omega)
    refine ww ?_
    refine AWk_gop rfl rfl rfl (fun hg => ⟨by first | exact True.intro | exact ⟨hg, True.intro⟩ | exact ⟨hg, hg, True.intro⟩, callS0 rfl rfl (hl (by simp [gval] at hg; omega)) rfl rfl rfl⟩) ?_
    refine ww ?_
    refine ret_exact rfl (.refl _) rfl rfl rfl rfl ⟨congrArg (fun b => AV.d (.bool b)) ?_, rfl⟩
    unfold tagOk
    rw [if_pos h1']
  · have h1' : ¬ t < 256 := by simpa using h1
    obtain ⟨n, rfl⟩ := Int.eq_ofNat_of_zero_le (show 0 ≤ t by omega)
    have hshr : Int.fdiv (n : Int) (2 ^ (min (8 : Int).toNat IntKind.i64.bits)) = ((n / 256 : Nat) : Int) := shr_nat n 8
    have hand := andE 0 (n := n) (m := 255) (q := 255) (by omega) (by omega) rfl
    rw [show n &&& 255 = n % 256 from mask_nat n 8] at hand
    have hl := long_spec ((n / 256 : Nat) : Int) (by omega) (by omega)
    rw [← hshr] at hl
    refine ww ?_
    refine AWk_gop rfl rfl rfl (fun hg => ⟨by first | exact True.intro | exact ⟨hg, True.intro⟩ | exact ⟨hg, hg, True.intro⟩, callS0 rfl rfl hl rfl rfl rfl⟩) ?_
    refine ww ?_
    refine ret_exact rfl (.refl _) rfl rfl rfl rfl ⟨congrArg (fun b => AV.d (.bool b)) ?_, rfl⟩
    rw [hshr, hand]
    unfold tagOk
    rw [if_neg h1', Bool.eq_iff_iff]
    simp
    omega

set_option maxHeartbeats 2000000 in
set_option maxRecDepth 100000 in
theorem Constructed_spec (t : Int) (hw : -9223372036854775808 ≤ t ∧ t ≤ 9223372036854775807) : Spec Tryz.prog 92 [.d (.int .i64 t)] [] (fun r h' => r = .d (.bool (tagCons t)) ∧ h' = []) := by
  have hv := Valid_spec t hw
  refine Spec_of_body hT Tryz.func92 rfl rfl rfl rfl ?_
  intro E hE
  unfold tagCons
  have hr := tagOk_range (t := t)
  generalize tagOk t = ok at hv hr
  refine ww ?_
  refine AWk_op (callS0 rfl rfl hv rfl rfl rfl) rfl ?_
  refine ww ?_
  refine AW_condL rfl (fun h1 => ?_) (fun h1 => ?_)
  · have h1' : ok = false := by simpa using h1
    subst h1'
    refine ww ?_
    exact ret_exact rfl (.refl _) rfl rfl rfl rfl ⟨rfl, rfl⟩
  · have h1' : ok = true := by simpa using h1
    obtain ⟨n, rfl⟩ := Int.eq_ofNat_of_zero_le (show 0 ≤ t by have := hr h1'; omega)
    have hn := hr h1'
    subst h1'
    have hbit : ∀ m : Nat, m < 9223372036854775808 → (IntKind.i64.wrap ((BitVec.ofInt IntKind.i64.bits (m : Int) &&& BitVec.ofInt IntKind.i64.bits 32).toNat : Int) != 0) = ((m : Int) / 32 % 2 == 1) := fun m hm => by
      rw [andE 0 (n := m) (m := 32) (q := 32) hm (by omega) rfl, show m &&& 32 = 32 * (m / 32 % 2) from bit_nat m 5, Bool.eq_iff_iff]
      simp
      omega
    refine ww ?_
    refine AW_condL rfl (fun h2 => ?_) (fun h2 => ?_)
    · have h2' : (n : Int) > 255 := by simpa using h2
      have hshr : Int.fdiv (n : Int) (2 ^ (min (8 : Int).toNat IntKind.i64.bits)) = ((n / 256 : Nat) : Int) := shr_nat n 8
      refine ww ?_
      refine ret_exact rfl (.refl _) rfl rfl rfl rfl ⟨congrArg (fun b => AV.d (.bool b)) ?_, rfl⟩
      rw [hshr, hbit _ (by omega), if_pos h2']
      rfl
    · have h2' : ¬ (n : Int) > 255 := by simpa using h2
      refine ww ?_
      refine ret_exact rfl (.refl _) rfl rfl rfl rfl ⟨congrArg (fun b => AV.d (.bool b)) ?_, rfl⟩
      rw [hbit _ (by omega), if_neg h2']
      rfl

set_option maxHeartbeats 2000000 in
set_option maxRecDepth 100000 in
theorem ValidR_spec (t : Int) (hw : -9223372036854775808 ≤ t ∧ t ≤ 9223372036854775807) : Spec Tryz.prog 115 [.d (.int .i64 t)] [] (fun r h' => r = .d (.bool (tagOk t)) ∧ h' = []) := by
  refine Spec_of_body hT Tryz.func115 rfl rfl rfl rfl ?_
  intro E hE
  refine ww ?_
  refine AW_condL rfl (fun h1 => ?_) (fun h1 => ?_)
  · have h1' : 1 ≤ t ∧ t ≤ 255 := by simpa using h1
    refine ww ?_
    refine ret_exact rfl (.refl _) rfl rfl rfl rfl ⟨congrArg (fun b => AV.d (.bool b)) ?_, rfl⟩
    unfold tagOk
    rw [if_pos (by omega), Int.tmod_eq_emod_of_nonneg (by omega), Bool.eq_iff_iff]
    simp
    omega
  · have h1' : ¬ (1 ≤ t ∧ t ≤ 255) := by simp at h1; omega
    refine ww ?_
    refine ret_exact rfl (.refl _) rfl rfl rfl rfl ⟨congrArg (fun b => AV.d (.bool b)) ?_, rfl⟩
    unfold tagOk
    by_cases h2 : t < 256
    · rw [if_pos h2, Bool.eq_iff_iff]
      simp
      omega
    · rw [if_neg h2, Int.tmod_eq_emod_of_nonneg (show 0 ≤ t by omega), Int.tdiv_eq_ediv_of_nonneg (by omega), wrap_id (by omega), Int.tmod_eq_emod_of_nonneg (by omega), Bool.eq_iff_iff]
      simp
      omega

set_option maxHeartbeats 2000000 in
set_option maxRecDepth 100000 in
theorem ConstructedR_spec (t : Int) (hw : -9223372036854775808 ≤ t ∧ t ≤ 9223372036854775807) : Spec Tryz.prog 57 [.d (.int .i64 t)] [] (fun r h' => r = .d (.bool (tagCons t)) ∧ h' = []) := by
  have hv := ValidR_spec t hw
  refine Spec_of_body hT Tryz.func57 rfl rfl rfl rfl ?_
  intro E hE
  unfold tagCons
  have hr := tagOk_range (t := t)
  generalize tagOk t = ok at hv hr
  refine ww ?_
  refine AWk_op (callS0 rfl rfl hv rfl rfl rfl) rfl ?_
  refine ww ?_
  refine AW_condL rfl (fun h1 => ?_) (fun h1 => ?_)
  · have h1' : ok = false := by simpa using h1
    subst h1'
    refine ww ?_
    exact ret_exact rfl (.refl _) rfl rfl rfl rfl ⟨rfl, rfl⟩
  · have h1' : ok = true := by simpa using h1
    have hn := hr h1'
    subst h1'
    refine ww ?_
    refine AW_condL rfl (fun h2 => ?_) (fun h2 => ?_)
    · have h2' : t > 255 := by simpa using h2
      refine ww ?_
      refine ret_exact rfl (.refl _) rfl rfl rfl rfl ⟨congrArg (fun b => AV.d (.bool b)) ?_, rfl⟩
      rw [if_pos h2', Int.tdiv_eq_ediv_of_nonneg (a := t) (by omega), wrap_id (n := t / 256) (by omega), Int.tdiv_eq_ediv_of_nonneg (by omega), wrap_id (by omega), Int.tmod_eq_emod_of_nonneg (by omega)]
      rfl
    · have h2' : ¬ t > 255 := by simpa using h2
      refine ww ?_
      refine ret_exact rfl (.refl _) rfl rfl rfl rfl ⟨congrArg (fun b => AV.d (.bool b)) ?_, rfl⟩
      rw [if_neg h2', Int.tdiv_eq_ediv_of_nonneg (by omega), wrap_id (by omega), Int.tmod_eq_emod_of_nonneg (by omega)]
      rfl
end Tdoc
/- The program's check of objects. -/
set_option linter.unusedVariables false
set_option linter.unusedSimpArgs false
namespace Tdoc
open Go Go.Proofs

mutual
def fitN : Node → Prop
  | .mk t v k => (-9223372036854775808 ≤ t ∧ t ≤ 9223372036854775807) ∧ v.length ≤ 1000000000 ∧ k.length ≤ 1000000000 ∧ fitL k
def fitL : List Node → Prop
  | [] => True
  | a :: l => fitN a ∧ fitL l
end

theorem fitL_at : ∀ {l : List Node}, fitL l → ∀ n, n ∈ l → fitN n
  | [], _, n, h => by cases h
  | a :: l, h, n, hn => by
    cases hn with
    | head => exact h.1
    | tail _ hn => exact fitL_at h.2 n hn
theorem fitL_append : ∀ {a b : List Node}, fitL a → fitL b → fitL (a ++ b)
  | [], _, _, h => h
  | x :: a, b, h1, h2 => ⟨h1.1, fitL_append h1.2 h2⟩
theorem sizeL_drop : ∀ (l : List Node) (i : Nat) (h : i < l.length), sizeL (l.drop i) = sizeN l[i] + sizeL (l.drop (i + 1))
  | a :: l, 0, _ => rfl
  | a :: l, i + 1, h => by simpa using sizeL_drop l i (by simpa using h)
theorem sizeL_drop_le : ∀ (l : List Node) (i : Nat), sizeL (l.drop i) ≤ sizeL l
  | [], i => by simp
  | a :: l, 0 => Nat.le_refl _
  | a :: l, i + 1 => by have := sizeL_drop_le l i; simp only [List.drop_succ_cons, sizeL]; omega

theorem len_pos {α : Type} (l : List α) : decide ((l.length : Int) > 0) = true ↔ l ≠ [] := by
  cases l with
  | nil => simp
  | cons a l => simp

set_option maxHeartbeats 8000000 in
set_option maxRecDepth 100000 in
theorem check_spec : ∀ (n d : Nat) (l : List Node) (c : Nat), sizeL l ≤ n → fitL l → l.length ≤ 1000000000 → d ≤ 1000 → c + sizeL l ≤ 1000000000000 →
    Spec Tryz.prog 160 [.d (.sl 3 (encNs l)), .d (.int .i64 (d : Int)), .ptr 0 0] [.row [.d (.int .i64 (c : Int))]] (fun r h' => r = .d (.int .i64 (chkL d l c).1) ∧ h' = [.row [.d (.int .i64 ((chkL d l c).2 : Int))]]) := by
  intro n
  induction n using Nat.strongRecOn with
  | _ n ih =>
  intro d l c hsz hf hl hd hc
  have hlen := encNs_length l
  refine Spec_of_body hT Tryz.func160 rfl rfl rfl rfl ?_
  intro E hE
  generalize hfin : chkL d l c = fin
  refine ww ?_
  refine AW_loopC (ι := Nat × Nat) (fun x => [(1, .d (.int .i64 (d : Int))), (2, .ptr 0 0), (11, .d (.sl 3 (encNs l))), (12, .d (.int .i64 (encNs l).length)), (13, .d (.int .i64 (x.1 : Int)))]) (fun x => [.row [.d (.int .i64 (x.2 : Int))]])
    (fun x => x.1 ≤ l.length ∧ x.2 + sizeL (l.drop x.1) ≤ 1000000000000 ∧ chkL d (l.drop x.1) x.2 = fin) (fun x => l.length - x.1) (0, c) ⟨by simp, by simpa using hc, by simpa using hfin⟩
    ⟨.refl _, .refl _, .refl _, .refl _, .refl _, trivial⟩ (HLe.refl _) ?_
  rintro ⟨i, ci⟩ ⟨hi, hci, hg⟩
  simp only at hi hci hg ⊢
  have hwr : IntKind.i64.wrap ((i : Int) + 1) = ((i + 1 : Nat) : Int) := by rw [wrap_id (by omega)]; simp
  have hwc : IntKind.i64.wrap ((ci : Int) + 1) = ((ci + 1 : Nat) : Int) := by rw [wrap_id (by omega)]; simp
  refine ww ?_
  refine AW_condL rfl (fun h1 => ?_) (fun h1 => ?_)
  · have hlt : i < l.length := by rw [hlen] at h1; simpa using h1
    have hdrop : l.drop i = l[i] :: l.drop (i + 1) := by simp
    have hel : (encNs l)[((i : Int)).toNat]? = some (encN l[i]) := by simp [encNs_eq, hlt]
    have hsd := sizeL_drop l i hlt
    have hsl := sizeL_drop_le l i
    have hfi := fitL_at hf l[i] (List.getElem_mem hlt)
    rw [hdrop, chkL] at hg
    generalize l[i] = x at hel hsd hfi hg
    obtain ⟨t, v, k⟩ := x
    rw [encN] at hel
    have hv := Valid_spec t hfi.1
    have hcon := Constructed_spec t hfi.1
    have hkl := encNs_length k
    have hvl := encB_length v
    have hsk : sizeN (.mk t v k) = 1 + sizeL k := by rw [sizeN]
    rw [chkN] at hg
    refine ww ?_
    refine AWk_op (OpS_of_pure (indexAddr_ok hT rfl rfl rfl rfl (by omega) hel)) rfl ?_
    refine ww ?_
    refine AWk_op (callS0 rfl rfl hcon rfl rfl rfl) rfl ?_
    refine ww ?_
    refine AWk_op (callS0 rfl rfl hv rfl rfl rfl) rfl ?_
    refine ww ?_
    refine AW_condL rfl (fun h2 => ?_) (fun h2 => ?_)
    · have h2' : tagOk t = false := by simpa using h2
      simp only [if_pos h2', show ¬ (4 : Int) = 0 by omega, if_false] at hg
      subst hg
      rw [← hwc]
      refine ww ?_
      exact ret_exact rfl (.refl _) rfl rfl rfl rfl ⟨rfl, rfl⟩
    · have h2' : ¬ tagOk t = false := by simpa using h2
      simp only [if_neg h2'] at hg
      clear hv hcon
      generalize hcn : tagCons t = con at hg
      refine ww ?_
      refine AW_condL rfl (fun h3 => ?_) (fun h3 => ?_)
      · have h3' : con = false ∧ k ≠ [] := by
          rw [Bool.and_eq_true, hkl, len_pos] at h3
          exact ⟨by simpa using h3.1, h3.2⟩
        have hp : (con = false ∧ k ≠ []) ∨ (con = true ∧ v ≠ []) := .inl h3'
        simp only [if_pos hp, show ¬ (1 : Int) = 0 by omega, if_false] at hg
        subst hg
        rw [← hwc]
        refine ww ?_
        refine AW_condL rfl (fun h4 => ?_) (fun h4 => by rw [h3] at h4; cases h4)
        refine ww ?_
        exact ret_exact rfl (.refl _) rfl rfl rfl rfl ⟨rfl, rfl⟩
      · have h3' : ¬ (con = false ∧ k ≠ []) := fun hh => by
          have : (!con && decide ((k.length : Int) > 0)) = true := by rw [Bool.and_eq_true, len_pos]; exact ⟨by simp [hh.1], hh.2⟩
          rw [hkl, this] at h3; cases h3
        refine ww ?_
        refine AW_condL rfl (fun h4 => ?_) (fun h4 => ?_)
        · have h4' : con = true ∧ v ≠ [] := by
            rw [Bool.and_eq_true, hvl, len_pos] at h4
            exact h4
          have hp : (con = false ∧ k ≠ []) ∨ (con = true ∧ v ≠ []) := .inr h4'
          simp only [if_pos hp, show ¬ (1 : Int) = 0 by omega, if_false] at hg
          subst hg
          rw [← hwc]
          refine ww ?_
          exact ret_exact rfl (.refl _) rfl rfl rfl rfl ⟨rfl, rfl⟩
        · have h4' : ¬ (con = true ∧ v ≠ []) := fun hh => by
            have : (con && decide ((v.length : Int) > 0)) = true := by rw [Bool.and_eq_true, len_pos]; exact hh
            rw [hvl, this] at h4; cases h4
          have hp : ¬ ((con = false ∧ k ≠ []) ∨ (con = true ∧ v ≠ [])) := fun hh => hh.elim h3' h4'
          simp only [if_neg hp] at hg
          refine ww ?_
          refine AW_condL rfl (fun h5 => ?_) (fun h5 => ?_)
          · have h5' : 8 < d := by simp at h5; omega
            simp only [if_pos h5', show ¬ (7 : Int) = 0 by omega, if_false] at hg
            subst hg
            rw [← hwc]
            refine ww ?_
            exact ret_exact rfl (.refl _) rfl rfl rfl rfl ⟨rfl, rfl⟩
          · have h5' : ¬ 8 < d := by simp at h5; omega
            simp only [if_neg h5'] at hg
            have hwd : IntKind.i64.wrap ((d : Int) + 1) = ((d + 1 : Nat) : Int) := by rw [wrap_id (by omega)]; simp
            have hrec := ih (sizeL k) (by omega) (d + 1) k (ci + 1) (Nat.le_refl _) hfi.2.2.2 hfi.2.2.1 (by omega) (by omega)
            have hcnt := chkL_count (d + 1) k (ci + 1)
            rw [← hwc, ← hwd] at hrec
            generalize chkL (d + 1) k (ci + 1) = q at hrec hcnt hg
            obtain ⟨e, c2⟩ := q
            simp only at hrec hcnt hg
            refine ww ?_
            refine AWk_op (callS1 rfl rfl hrec [0] (by decide) rfl rfl rfl rfl rfl rfl rfl) rfl ?_
            refine ww ?_
            refine AW_condL rfl (fun h6 => ?_) (fun h6 => ?_)
            · have h6' : ¬ e = 0 := by simpa using h6
              rw [if_neg h6'] at hg
              subst hg
              refine ww ?_
              exact ret_exact rfl (.refl _) rfl rfl rfl rfl ⟨rfl, rfl⟩
            · have h6' : e = 0 := by simpa using h6
              rw [if_pos h6'] at hg
              have hc2 := hcnt.2 h6'
              refine ww ?_
              exact ⟨(i + 1, c2), [_], ⟨by simp only; omega, by simp only; omega, hg⟩, by simp only; omega, ⟨.refl _, .refl _, .refl _, .refl _, AV.le.eq (by show AV.d (.int .i64 (IntKind.i64.wrap ((i : Int) + 1))) = _; rw [hwr]), trivial⟩, HLe.refl _, hE, rfl, rfl⟩
  · have hge : i = l.length := by rw [hlen] at h1; simp at h1; omega
    subst hge
    simp only [List.drop_length, chkL] at hg
    subst hg
    refine ww ?_
    exact ret_exact rfl (.refl _) rfl rfl rfl rfl ⟨rfl, rfl⟩
end Tdoc
/- Reverse, and lengths in shortest form. -/
set_option linter.unusedVariables false
set_option linter.unusedSimpArgs false
namespace Tdoc
open Go Go.Proofs

/-- A row whose first i and last i elements have changed places. -/
def revAt (cells : List AV) (i : Nat) : List AV := (List.range cells.length).map fun k => (cells[if k < i ∨ cells.length - i ≤ k then cells.length - 1 - k else k]?).getD .any
theorem revAt_length (cells : List AV) (i : Nat) : (revAt cells i).length = cells.length := by simp [revAt]
theorem revAt_zero (cells : List AV) : revAt cells 0 = cells := by
  apply List.ext_getElem?
  intro k
  by_cases h : k < cells.length
  · simp only [revAt, List.getElem?_map, List.getElem?_range h, Option.map_some]
    rw [if_neg (by omega)]
    simp [h]
  · rw [List.getElem?_eq_none (by rw [revAt_length]; omega), List.getElem?_eq_none (by omega)]
theorem revAt_at {cells : List AV} {i k : Nat} (h : k < cells.length) : (revAt cells i)[k]? = cells[if k < i ∨ cells.length - i ≤ k then cells.length - 1 - k else k]? := by
  simp only [revAt, List.getElem?_map, List.getElem?_range h, Option.map_some]
  have hlt : (if k < i ∨ cells.length - i ≤ k then cells.length - 1 - k else k) < cells.length := by split <;> omega
  rw [List.getElem?_eq_getElem hlt]; rfl
theorem revAt_half {cells : List AV} {i : Nat} (h : cells.length ≤ 2 * i + 1) (hi : 2 * i ≤ cells.length) : revAt cells i = cells.reverse := by
  apply List.ext_getElem?
  intro k
  by_cases hk : k < cells.length
  · rw [revAt_at hk, List.getElem?_reverse hk]
    split
    · rfl
    · congr 1; omega
  · rw [List.getElem?_eq_none (by rw [revAt_length]; omega), List.getElem?_eq_none (by simp; omega)]
theorem revAt_succ {cells : List AV} {i : Nat} (h : 2 * i + 1 < cells.length) {x y : AV} (hx : (revAt cells i)[cells.length - 1 - i]? = some x) (hy : (revAt cells i)[i]? = some y) :
    ((revAt cells i).set i x).set (cells.length - 1 - i) y = revAt cells (i + 1) := by
  rw [revAt_at (by omega), if_neg (by omega)] at hx hy
  apply List.ext_getElem?
  intro k
  by_cases hk : k < cells.length
  · rw [revAt_at hk, List.getElem?_set, List.getElem?_set]
    simp only [List.length_set, revAt_length]
    by_cases h1 : cells.length - 1 - i = k
    · rw [if_pos h1, if_pos (by omega), if_pos (by omega), ← hy]; congr 1; omega
    · rw [if_neg h1]
      by_cases h2 : i = k
      · rw [if_pos h2, if_pos (by omega), if_pos (by omega), ← hx]; congr 1; omega
      · rw [if_neg h2, revAt_at hk]
        congr 1
        by_cases h3 : k < i ∨ cells.length - i ≤ k
        · rw [if_pos h3, if_pos (by omega)]
        · rw [if_neg h3, if_neg (by omega)]
  · rw [List.getElem?_eq_none (by simp [revAt_length]; omega), List.getElem?_eq_none (by rw [revAt_length]; omega)]

theorem lowL_of {k : Nat} : ∀ {l : List AV}, (∀ c, c ∈ l → low k c = true) → lowL k l = true
  | [], _ => rfl
  | a :: l, h => by simp only [lowL, Bool.and_eq_true]; exact ⟨h a (by simp), lowL_of fun c hc => h c (by simp [hc])⟩

set_option maxHeartbeats 4000000 in
set_option maxRecDepth 100000 in
theorem Reverse_spec (cells : List AV) (hl : cells.length ≤ 1000000000) (hsc : ∀ c, c ∈ cells → scalarA c = true) (hlow : ∀ c, c ∈ cells → low 1 c = true) :
    Spec Tryz.prog 262 [.bm 0 cells.length] [.buf 1 cells.length cells] (fun r h' => r = .tup [] ∧ h' = [.buf 1 cells.length cells.reverse]) := by
  refine Spec_of_body hT Tryz.func262 rfl rfl rfl rfl ?_
  intro E hE
  generalize hn : cells.length = n at hl
  have hw1 : IntKind.i64.wrap ((n : Int) - 1) = (n : Int) - 1 := wrap_id (by omega)
  refine ww ?_
  refine AW_loopL (ι := Nat) (fun i => [(0, .bm 0 n), (2, .d (.int .i64 (i : Int))), (3, .d (.int .i64 ((n : Int) - 1 - i)))]) (fun i => [.buf 1 n (revAt cells i)]) (fun i => 2 * i ≤ n + 1 ∧ (2 * i ≤ n ∨ i = 0)) (fun i => n - i) 0 (by omega)
    ⟨.refl _, .refl _, AV.le.eq (by show AV.d (.int .i64 (IntKind.i64.wrap ((n : Int) - 1))) = _; rw [hw1]; simp), trivial⟩ ⟨⟨rfl, rfl, by rw [revAt_zero]; exact AllLe.refl _⟩, trivial⟩ ?_
  intro i ⟨hi, hi2⟩
  have hwr : IntKind.i64.wrap ((i : Int) + 1) = ((i + 1 : Nat) : Int) := by rw [wrap_id (by omega)]; simp
  have hwr2 : IntKind.i64.wrap ((n : Int) - 1 - i - 1) = (n : Int) - 1 - ((i + 1 : Nat) : Int) := by rw [wrap_id (by omega)]; omega
  refine ww ?_
  refine AW_condL rfl (fun h1 => ?_) (fun h1 => ?_)
  · have h1' : (i : Int) < (n : Int) - 1 - i := by simpa using h1
    have hjn : ((n : Int) - 1 - i).toNat = n - 1 - i := by omega
    obtain ⟨x, hx⟩ : ∃ x, (revAt cells i)[n - 1 - i]? = some x := ⟨(revAt cells i)[n - 1 - i]'(by rw [revAt_length]; omega), by simp⟩
    obtain ⟨y, hy⟩ : ∃ y, (revAt cells i)[i]? = some y := ⟨(revAt cells i)[i]'(by rw [revAt_length]; omega), by simp⟩
    have hxs : scalarA x = true := by
      rw [revAt_at (by omega)] at hx; exact hsc x (List.mem_of_getElem? hx)
    have hys : scalarA y = true := by
      rw [revAt_at (by omega)] at hy; exact hsc y (List.mem_of_getElem? hy)
    have hsucc := revAt_succ (cells := cells) (i := i) (by omega) (x := x) (y := y) (by rw [hn]; exact hx) hy
    rw [hn] at hsucc
    have hlr : (revAt cells i).length = n := by rw [revAt_length, hn]
    generalize revAt cells i = rc at hx hy hsucc hlr
    have hlo1 : ((i : Int)).toNat * 1 < rc.length := by rw [Nat.mul_one, Int.toNat_natCast, hlr]; omega
    have hlo2 : ((n : Int) - 1 - i).toNat * 1 < (rc.set (((i : Int)).toNat * 1) x).length := by rw [Nat.mul_one, hjn, List.length_set, hlr]; omega
    refine wwn ?_
    refine AW_drawG (fun i => bif Nat.beq i 7 || Nat.beq i 11 || Nat.beq i 13 || Nat.beq i 15 then [0] else []) (fun i => bif Nat.beq i 13 || Nat.beq i 15 then [0] else []) mixed (by kernel_rfl) ?_
    refine wwg ?_
    refine AWg_op (os := []) (fun k hk1 hk2 => OpS_of_pure (bufAddr_ok (sz := 1) hT rfl rfl rfl rfl (by omega))) rfl ?_
    refine AWg_op (v := x) (os := []) (fun k hk1 hk2 => bufLoad_ok hT rfl rfl ((hk2 0 List.mem_cons_self).trans rfl) rfl rfl (by rw [Nat.mul_one, hjn]; exact hx)) rfl ?_
    refine wwg ?_
    refine AWg_op (os := []) (fun k hk1 hk2 => OpS_of_pure (bufAddr_ok (sz := 1) hT rfl rfl rfl rfl (by omega))) rfl ?_
    refine AWg_op (v := y) (os := []) (fun k hk1 hk2 => bufLoad_ok hT rfl rfl ((hk2 0 List.mem_cons_self).trans rfl) rfl rfl (by rw [Nat.mul_one, Int.toNat_natCast]; exact hy)) rfl ?_
    refine AWg_op (os := []) (fun k hk1 hk2 => OpS_of_pure (bufAddr_ok (sz := 1) hT rfl rfl rfl rfl (by omega))) rfl ?_
    refine AWg_op (v := .any) (os := [.buf 1 n (rc.set (((i : Int)).toNat * 1) x)]) (fun k hk1 hk2 => bufStoreE hT rfl rfl rfl ((hk2 0 List.mem_cons_self).trans rfl) rfl rfl hxs hlo1 rfl) rfl ?_
    refine AWg_op (os := []) (fun k hk1 hk2 => OpS_of_pure (bufAddr_ok (sz := 1) hT rfl rfl rfl rfl (by omega))) rfl ?_
    refine AWg_op (v := .any) (os := [.buf 1 n ((rc.set (((i : Int)).toNat * 1) x).set (((n : Int) - 1 - i).toNat * 1) y)]) (fun k hk1 hk2 => bufStoreE hT rfl rfl rfl ((hk2 0 List.mem_cons_self).trans rfl) rfl rfl hys hlo2 rfl) rfl ?_
    have e : (rc.set (((i : Int)).toNat * 1) x).set (((n : Int) - 1 - i).toNat * 1) y = revAt cells (i + 1) := by rw [Nat.mul_one, Nat.mul_one, hjn, Int.toNat_natCast]; exact hsucc
    refine wwg ?_
    refine ww ?_
    exact ⟨i + 1, by omega, by omega, ⟨.refl _, AV.le.eq (by show AV.d (.int .i64 (IntKind.i64.wrap ((i : Int) + 1))) = _; rw [hwr]), AV.le.eq (by show AV.d (.int .i64 (IntKind.i64.wrap ((n : Int) - 1 - i - 1))) = _; rw [hwr2]), trivial⟩, ⟨⟨rfl, rfl, e ▸ AllLe.refl _⟩, trivial⟩⟩
  · have h1' : ¬ (i : Int) < (n : Int) - 1 - i := by simpa using h1
    have hfin : revAt cells i = cells.reverse := by
      rcases hi2 with h | h
      · exact revAt_half (by omega) (by omega)
      · subst h
        rw [revAt_zero]
        have hn1 : cells.length ≤ 1 := by omega
        match cells, hn1 with
        | [], _ => rfl
        | [a], _ => rfl
    rw [hfin]
    refine ww ?_
    exact ret_exactN rfl (.refl _) rfl rfl rfl (by show (lowL 1 cells.reverse && true) = true; rw [Bool.and_true]; exact lowL_of fun c hc => hlow c (List.mem_reverse.1 hc)) ⟨rfl, rfl⟩
end Tdoc
/- Lengths in shortest form. -/
set_option linter.unusedVariables false
set_option linter.unusedSimpArgs false
namespace Tdoc
open Go Go.Proofs

theorem byteAV_length (s : List UInt8) : (byteAV s).length = s.length := by simp [byteAV]
theorem byteAV_append (a b : List UInt8) : byteAV (a ++ b) = byteAV a ++ byteAV b := by simp [byteAV]
theorem byteAV_reverse (a : List UInt8) : (byteAV a).reverse = byteAV a.reverse := by simp [byteAV, List.map_reverse]
theorem byteAV_scalar {s : List UInt8} {c : AV} (h : c ∈ byteAV s) : scalarA c = true := by
  simp only [byteAV, List.mem_map] at h
  obtain ⟨b, _, rfl⟩ := h; rfl
theorem byteAV_low {k : Nat} {s : List UInt8} {c : AV} (h : c ∈ byteAV s) : low k c = true := by
  simp only [byteAV, List.mem_map] at h
  obtain ⟨b, _, rfl⟩ := h; rfl
theorem lowL_bytes (k : Nat) (s : List UInt8) : lowL k (byteAV s) = true := lowL_of fun c hc => byteAV_low hc
theorem lowH_bytes (k n : Nat) (s : List UInt8) : lowH k [.buf 1 n (byteAV s)] = true := by show (lowL k (byteAV s) && true) = true; rw [Bool.and_true]; exact lowL_bytes k s
theorem flatAV_encB (s : List UInt8) : flatAV (encB s) = byteAV s := by
  induction s with
  | nil => rfl
  | cons a s ih =>
    simp only [flatAV, encB, byteAV, List.map_cons, List.flatten_cons, List.map_append] at ih ⊢
    rw [ih]; rfl
theorem RowDat_bytes (s : List UInt8) : RowDat (byteAV s) 0 1 (encB s) := by
  refine ⟨fun e he => ?_, fun i e j d he hd => ?_⟩
  · simp only [encB, List.mem_map] at he
    obtain ⟨b, _, rfl⟩ := he; rfl
  · simp only [encB, List.getElem?_map, Option.map_eq_some_iff] at he
    obtain ⟨b, hb, rfl⟩ := he
    cases j with
    | zero => simp at hd; subst hd; exact ⟨.d (.int .u8 (b.toNat : Int)), by simp [byteAV, hb], rfl⟩
    | succ j => simp at hd

theorem toNat_ofNat {n : Nat} (h : n < 256) : (UInt8.ofNat n).toNat = n := by simp; omega

set_option maxHeartbeats 4000000 in
set_option maxRecDepth 100000 in
theorem length_spec (n : Nat) (hn : n ≤ 1000000000000) : Spec Tryz.prog 229 [.d (.int .i64 (n : Int))] [] (fun r h' => r = .d (.sl 1 (encB (lenB n))) ∧ h' = []) := by
  refine Spec_of_body hT Tryz.func229 rfl rfl rfl rfl ?_
  intro E hE
  refine ww ?_
  refine AW_condL rfl (fun h1 => ?_) (fun h1 => ?_)
  · have h1' : n < 128 := by simp at h1; omega
    have hw8 : IntKind.u8.wrap (n : Int) = ((UInt8.ofNat n).toNat : Int) := by rw [toNat_ofNat (by omega)]; exact wrapu8 (by omega)
    have hL : lenB n = [UInt8.ofNat n] := by unfold lenB; rw [if_pos h1']
    rw [hL, show encB [UInt8.ofNat n] = [[.int .u8 (IntKind.u8.wrap (n : Int))]] by rw [hw8]; rfl]
    refine ww ?_
    exact ret_exact rfl AV.le.dat rfl rfl rfl rfl ⟨rfl, rfl⟩
  · have h1' : ¬ n < 128 := by simp at h1; omega
    have hL : lenB n = UInt8.ofNat (128 + (digs 8 n).length) :: digs 8 n := by unfold lenB; rw [if_neg h1']
    have hdl := digL_length 8 n
    generalize hfull : digL 8 n = full at hdl
    have hL2 : lenB n = (full ++ [UInt8.ofNat (128 + full.length)]).reverse := by rw [hL, digs, hfull]; simp
    rw [hL2]
    refine AW_room ?_
    refine wwe ?_
    refine AW_seq (AW_region ?_)
    refine wws ?_
    refine AW_bufOf 3 1 0 (.inr rfl) rfl rfl ?_
    refine ww ?_
    refine AW_loopL (ι := List UInt8 × Nat × Nat) (fun x => [(0, .d (.int .i64 (x.2.2 : Int))), (3, .bm 0 x.1.length)]) (fun x => [.buf 1 x.1.length (byteAV x.1)])
      (fun x => x.1.length + x.2.1 ≤ 8 ∧ x.2.2 < 256 ^ x.2.1 ∧ x.2.2 ≤ 1000000000000 ∧ x.1 ++ digL x.2.1 x.2.2 = full) (fun x => x.2.1) ([], 8, n) ⟨by simp, by simp only; omega, hn, by simpa using hfull⟩ ⟨.refl _, .refl _, trivial⟩ (HLe.refl _) ?_
    rintro ⟨acc, m, k⟩ ⟨j1, j2, j3, j4⟩
    simp only at j1 j2 j3 j4 ⊢
    refine ww ?_
    refine AW_condL rfl (fun h2 => ?_) (fun h2 => ?_)
    · have h2' : 0 < k := by simp at h2; omega
      obtain ⟨m, rfl⟩ : ∃ m', m = m' + 1 := ⟨m - 1, by
        rcases Nat.eq_zero_or_pos m with h0 | h0
        · subst h0; simp at j2; omega
        · omega⟩
      rw [digL, if_neg (by omega)] at j4
      have hshr : Int.fdiv (k : Int) (2 ^ (min (8 : Int).toNat IntKind.i64.bits)) = ((k / 256 : Nat) : Int) := shr_nat k 8
      have hb : IntKind.u8.wrap (k : Int) = ((UInt8.ofNat (k % 256)).toNat : Int) := by rw [wrapu8_mod, toNat_ofNat (Nat.mod_lt _ (by omega))]; simp
      refine ww ?_
      refine AWk_opF (bufApp_ok hT rfl rfl rfl rfl rfl rfl (by show (acc.length + 1) * (1 + 1) ≤ _; omega)) rfl rfl ?_
      refine ww ?_
      refine ⟨(acc ++ [UInt8.ofNat (k % 256)], m, k / 256), ⟨by simp only [List.length_append, List.length_singleton]; omega, by rw [Nat.pow_succ] at j2; simp only; omega, by simp only; omega, by simpa using j4⟩, by simp only; omega, ⟨AV.le.eq ?_, AV.le.eq ?_, trivial⟩, ⟨⟨rfl, ?_, ?_⟩, trivial⟩⟩
      · show AV.d (.int .i64 (Int.fdiv (k : Int) (2 ^ (min (8 : Int).toNat IntKind.i64.bits)))) = _
        rw [hshr]
      · simp; rfl
      · simp
      · rw [byteAV_append]
        show AllLe (byteAV acc ++ [AV.d (.int .u8 (IntKind.u8.wrap (k : Int)))]) _
        rw [hb]
        exact AllLe.refl _
    · have h2' : k = 0 := by simp at h2; omega
      subst h2'
      rw [digL_zero, List.append_nil] at j4
      subst j4
      have hor : IntKind.u8.wrap ((BitVec.ofInt IntKind.u8.bits 128 ||| BitVec.ofInt IntKind.u8.bits (IntKind.u8.wrap (acc.length : Int))).toNat : Int) = ((UInt8.ofNat (128 + acc.length)).toNat : Int) := by
        rw [wrapu8 (n := (acc.length : Int)) (by omega), toNat_ofNat (by omega)]
        have := or_nat8 (a := 128) (b := acc.length) (by omega) (by omega)
        rw [show (128 ||| acc.length) = 128 + acc.length from shl_or 1 acc.length 7 (by omega)] at this
        exact this
      have hrev := Reverse_spec (byteAV (acc ++ [UInt8.ofNat (128 + acc.length)])) (by rw [byteAV_length]; simp; omega) (fun c hc => byteAV_scalar hc) (fun c hc => byteAV_low hc)
      rw [byteAV_length, byteAV_reverse] at hrev
      refine wwe ?_
      refine AW_seq (AW_region ?_)
      refine wws ?_
      refine AWk_opF (bufApp_ok hT rfl rfl rfl rfl rfl rfl (by show (acc.length + 1) * (1 + 1) ≤ _; omega)) rfl rfl ?_
      refine wws ?_
      refine AW_subL (l := [(3, .bm 0 (acc ++ [UInt8.ofNat (128 + acc.length)]).length)]) (h' := [.buf 1 (acc ++ [UInt8.ofNat (128 + acc.length)]).length (byteAV (acc ++ [UInt8.ofNat (128 + acc.length)]))]) ⟨AV.le.eq (by simp; rfl), trivial⟩ ⟨⟨rfl, by simp, ?_⟩, trivial⟩ ?_
      · rw [byteAV_append]
        show AllLe (byteAV acc ++ [AV.d (.int .u8 (IntKind.u8.wrap ((BitVec.ofInt IntKind.u8.bits 128 ||| BitVec.ofInt IntKind.u8.bits (IntKind.u8.wrap (acc.length : Int))).toNat : Int)))]) _
        rw [hor]
        exact AllLe.refl _
      generalize acc ++ [UInt8.ofNat (128 + acc.length)] = s at hrev ⊢
      refine AW_seq (AW_region ?_)
      refine wws ?_
      refine AWk_opF (callS1 rfl rfl hrev [0] (by decide) rfl rfl rfl (lowH_bytes _ _ _) (lowH_bytes _ _ _) rfl rfl) rfl rfl ?_
      refine wws ?_
      refine AW_freezeBuf 3 0 1 (encB s.reverse) rfl rfl (by rw [encB_length, List.length_reverse]) (RowDat_bytes _) rfl ?_
      refine ww ?_
      exact ret_exact rfl AV.le.dat rfl rfl rfl rfl ⟨rfl, rfl⟩
end Tdoc
/- Writing of objects, and Encode: the program. -/
set_option linter.unusedVariables false
set_option linter.unusedSimpArgs false
namespace Tdoc
open Go Go.Proofs

mutual
def tagsN : Node → Prop
  | .mk t _ k => tagOk t = true ∧ tagsL k
def tagsL : List Node → Prop
  | [] => True
  | a :: l => tagsN a ∧ tagsL l
end

theorem tagsL_at : ∀ {l : List Node}, tagsL l → ∀ n, n ∈ l → tagsN n
  | [], _, n, h => by cases h
  | a :: l, h, n, hn => by
    cases hn with
    | head => exact h.1
    | tail _ hn => exact tagsL_at h.2 n hn

mutual
theorem chkN_tags (d : Nat) : ∀ (n : Node) (c : Nat), (chkN d n c).1 = 0 → tagsN n
  | .mk t v k, c, h => by
    rw [chkN] at h
    split at h
    · simp at h
    · rename_i h1
      split at h
      · simp at h
      · split at h
        · simp at h
        · exact ⟨by simpa using h1, chkL_tags (d + 1) k (c + 1) h⟩
theorem chkL_tags (d : Nat) : ∀ (l : List Node) (c : Nat), (chkL d l c).1 = 0 → tagsL l
  | [], c, h => trivial
  | a :: l, c, h => by
    rw [chkL] at h
    split at h
    · rename_i h0
      exact ⟨chkN_tags d a c h0, chkL_tags d l _ h⟩
    · rename_i h0
      exact absurd h h0
end

theorem wrL_append : ∀ (a b : List Node), wrL (a ++ b) = wrL a ++ wrL b
  | [], b => rfl
  | x :: a, b => by simp only [List.cons_append, wrL, wrL_append a b, List.append_assoc]
theorem wrL_take_succ {l : List Node} {i : Nat} (h : i < l.length) : wrL (l.take (i + 1)) = wrL (l.take i) ++ wrN l[i] := by
  rw [List.take_succ_eq_append_getElem h, wrL_append]
  simp [wrL]
theorem wrL_take_le (l : List Node) (i : Nat) : (wrL (l.take i)).length ≤ (wrL l).length := by
  have := congrArg List.length (wrL_append (l.take i) (l.drop i))
  rw [List.take_append_drop, List.length_append] at this
  omega
theorem sizeN_mem : ∀ {l : List Node} {n : Node}, n ∈ l → sizeN n ≤ sizeL l
  | a :: l, n, h => by
    cases h with
    | head => simp only [sizeL]; omega
    | tail _ h => have := sizeN_mem h; simp only [sizeL]; omega

set_option maxHeartbeats 8000000 in
set_option maxRecDepth 100000 in
theorem write_spec : ∀ (n : Nat) (l : List Node), sizeL l ≤ n → tagsL l → l.length ≤ 1000000000 → fitL l → (wrL l).length ≤ 1000000000 →
    Spec Tryz.prog 161 [.d (.sl 3 (encNs l))] [] (fun r h' => r = .d (.sl 1 (encB (wrL l))) ∧ h' = []) := by
  intro n
  induction n using Nat.strongRecOn with
  | _ n ih =>
  intro l hsz htg hl hf hw
  have hlen := encNs_length l
  refine Spec_of_body hT Tryz.func161 rfl rfl rfl rfl ?_
  intro E hE
  refine AW_room ?_
  refine AW_seq (AW_region ?_)
  refine wws ?_
  refine AW_seq (AW_region ?_)
  refine wws ?_
  refine AW_acquireAt 3 1 0 (es := []) (.inr ⟨rfl, rfl⟩) rfl ?_
  refine ww ?_
  refine AW_loopC (ι := Nat) (fun i => [(3, .sl 1 (encB (wrL (l.take i))) (.right 0)), (7, .d (.sl 3 (encNs l))), (8, .d (.int .i64 (encNs l).length)), (9, .d (.int .i64 (i : Int)))]) (fun i => [.right 1 (encB (wrL (l.take i))).length])
    (fun i => i ≤ l.length) (fun i => l.length - i) 0 (by omega) ⟨.refl _, .refl _, .refl _, .refl _, trivial⟩ (HLe.refl _) ?_
  intro i hi
  have hwr : IntKind.i64.wrap ((i : Int) + 1) = ((i + 1 : Nat) : Int) := by rw [wrap_id (by omega)]; simp
  refine ww ?_
  refine AW_condL rfl (fun h1 => ?_) (fun h1 => ?_)
  · have hlt : i < l.length := by rw [hlen] at h1; simpa using h1
    have hel : (encNs l)[((i : Int)).toNat]? = some (encN l[i]) := by simp [encNs_eq, hlt]
    have hsucc := wrL_take_succ hlt
    have hle := wrL_take_le l (i + 1)
    have hmem : l[i] ∈ l := List.getElem_mem hlt
    have hsm := sizeN_mem hmem
    have htm := tagsL_at htg _ hmem
    have hfm := fitL_at hf _ hmem
    generalize l[i] = x at hel hsucc hsm htm hfm
    obtain ⟨t, v, k⟩ := x
    rw [encN] at hel
    rw [sizeN] at hsm
    have htr := tagOk_range htm.1
    obtain ⟨tn, rfl⟩ := Int.eq_ofNat_of_zero_le (show 0 ≤ t by omega)
    have hcon := Constructed_spec (tn : Int) (by omega)
    rw [wrN] at hsucc
    generalize hout : wrL (l.take i) = out at hsucc ⊢
    have hrec : tagCons (tn : Int) = true → Spec Tryz.prog 161 [.d (.sl 3 (encNs k))] [] (fun r h' => r = .d (.sl 1 (encB (wrL k))) ∧ h' = []) := fun hc => ih (sizeL k) (by omega) k (Nat.le_refl _) htm.2 hfm.2.2.1 hfm.2.2.2 (by
      rw [hsucc, if_pos hc] at hle
      simp only [List.length_append] at hle
      omega)
    generalize tagCons (tn : Int) = con at hcon hsucc hrec
    generalize hc : (if con = true then wrL k else v) = c at hsucc
    have hcl : c.length ≤ 1000000000 := by
      rw [hsucc] at hle; simp only [List.length_append] at hle; omega
    have hll := encB_length c
    have hlsp : Spec Tryz.prog 229 [.d (.int .i64 ((encB c).length : Int))] [] (fun r h' => r = .d (.sl 1 (encB (lenB c.length))) ∧ h' = []) := by rw [hll]; exact length_spec c.length (by omega)
    have hlb : out.length + ((tagB (tn : Int)).length + (lenB c.length).length + c.length) ≤ 1000000000 := by
      rw [hsucc] at hle; simp only [List.length_append] at hle; omega
    have hlo : IntKind.u8.wrap (tn : Int) = ((UInt8.ofNat (tn % 256)).toNat : Int) := by rw [wrapu8_mod, toNat_ofNat (Nat.mod_lt _ (by omega))]; simp
    have hshr : Int.fdiv (tn : Int) (2 ^ (min (8 : Int).toNat IntKind.i64.bits)) = ((tn / 256 : Nat) : Int) := shr_nat tn 8
    have hhi : IntKind.u8.wrap (Int.fdiv (tn : Int) (2 ^ (min (8 : Int).toNat IntKind.i64.bits))) = ((UInt8.ofNat (tn / 256 % 256)).toNat : Int) := by rw [hshr, wrapu8_mod, toNat_ofNat (Nat.mod_lt _ (by omega))]; simp
    generalize hhd : (if tn > 255 then [UInt8.ofNat (tn / 256 % 256)] else []) = hd
    have htb : tagB (tn : Int) = hd ++ [UInt8.ofNat (tn % 256)] := by
      have e1 : ((tn : Int) / 256 % 256).toNat = tn / 256 % 256 := by omega
      have e2 : ((tn : Int) % 256).toNat = tn % 256 := by omega
      unfold tagB
      rw [e1, e2, ← hhd]
      by_cases h9 : tn > 255
      · rw [if_pos (by omega), if_pos h9]; rfl
      · rw [if_neg (by omega), if_neg h9]; rfl
    rw [htb] at hsucc hlb
    simp only [List.length_append, List.length_singleton] at hlb
    refine AW_skip ?_
    refine AW_seq (AW_block (AW_seq (AW_region ?_)))
    refine AWk_op (OpS_of_pure (indexAddr_ok hT rfl rfl rfl rfl (by omega) hel)) rfl ?_
    refine wws ?_
    refine AW_seq (AW_region ?_)
    refine wws ?_
    refine AW_seq_cut (ι := Unit) (fun _ => [(3, .sl 1 (encB out) (.right 0)), (5, .ptr 1 0), (6, .d (.sl 1 (encB c))), (7, .d (.sl 3 (encNs l))), (8, .d (.int .i64 (encNs l).length)), (9, .d (.int .i64 (i : Int)))])
      (fun _ => [.right 1 (encB out).length, .row [.d (.int .i64 (tn : Int)), .d (.sl 1 (encB v)), .d (.sl 3 (encNs k))]]) (fun _ => True) ?_ (fun _ _ => ?_)
    · refine ww ?_
      refine AWk_op (callS0 rfl rfl hcon rfl rfl rfl) rfl ?_
      refine ww ?_
      refine AW_condL rfl (fun h2 => ?_) (fun h2 => ?_)
      · refine ww ?_
        refine AWk_op (callS0 rfl rfl (hrec h2) rfl rfl rfl) rfl ?_
        refine ww ?_
        exact ⟨(), trivial, ⟨.refl _, .refl _, AV.le.eq (by rw [← hc, if_pos h2]; rfl), .refl _, .refl _, .refl _, trivial⟩, HLe.refl _⟩
      · have h2' : ¬ con = true := by simp [h2]
        refine ww ?_
        exact ⟨(), trivial, ⟨.refl _, .refl _, AV.le.eq (by rw [← hc, if_neg h2']; rfl), .refl _, .refl _, .refl _, trivial⟩, HLe.refl _⟩
    refine AW_seq_cut (ι := Unit) (fun _ => [(3, .sl 1 (encB (out ++ hd)) (.right 0)), (5, .ptr 1 0), (6, .d (.sl 1 (encB c))), (7, .d (.sl 3 (encNs l))), (8, .d (.int .i64 (encNs l).length)), (9, .d (.int .i64 (i : Int)))])
      (fun _ => [.right 1 (encB (out ++ hd)).length, .row [.d (.int .i64 (tn : Int)), .d (.sl 1 (encB v)), .d (.sl 3 (encNs k))]]) (fun _ => True) ?_ (fun _ _ => ?_)
    · refine ww ?_
      refine AW_condL rfl (fun h2 => ?_) (fun h2 => ?_)
      · have h2' : tn > 255 := by simp at h2; omega
        rw [if_pos h2'] at hhd
        subst hhd
        refine ww ?_
        refine AWk_op (append_rightL (i := 0) hT rfl rfl rfl rfl rfl rfl (by show ((encB out).length + 1) * (1 + 1) ≤ _; rw [encB_length]; omega)) rfl ?_
        refine ww ?_
        refine ⟨(), trivial, ⟨AV.le.eq ?_, .refl _, .refl _, .refl _, .refl _, .refl _, trivial⟩, ⟨⟨rfl, ?_⟩, ObLe.refl _, trivial⟩⟩
        · show AV.sl 1 (encB out ++ [[.int .u8 (IntKind.u8.wrap (Int.fdiv (tn : Int) (2 ^ (min (8 : Int).toNat IntKind.i64.bits))))]]) (.right 0) = _
          rw [hhi, encB_append]; rfl
        · show (encB out ++ [[Dat.int .u8 (IntKind.u8.wrap (Int.fdiv (tn : Int) (2 ^ (min (8 : Int).toNat IntKind.i64.bits))))]]).length = _
          rw [hhi, encB_append]; rfl
      · have h2' : ¬ tn > 255 := by simp at h2; omega
        rw [if_neg h2'] at hhd
        subst hhd
        refine ww ?_
        refine ⟨(), trivial, ⟨AV.le.eq (by rw [List.append_nil]; rfl), .refl _, .refl _, .refl _, .refl _, .refl _, trivial⟩, ⟨⟨rfl, by rw [List.append_nil]⟩, ObLe.refl _, trivial⟩⟩
    have hol := encB_length (out ++ hd)
    rw [List.length_append] at hol
    have hlbl := encB_length (lenB c.length)
    refine ww ?_
    refine AWk_op (append_rightL (i := 0) hT rfl rfl rfl rfl rfl rfl (by show ((encB (out ++ hd)).length + 1) * (1 + 1) ≤ _; omega)) rfl ?_
    refine ww ?_
    refine AWk_op (callS0 rfl rfl hlsp rfl rfl rfl) rfl ?_
    refine AWk_op (append_rightL (i := 0) hT rfl rfl rfl rfl rfl rfl (by show ((encB (out ++ hd) ++ [[Dat.int .u8 (IntKind.u8.wrap (tn : Int))]]).length + (encB (lenB c.length)).length) * (1 + 1) ≤ _; rw [List.length_append, List.length_singleton]; omega)) rfl ?_
    refine ww ?_
    refine AWk_op (append_rightL (i := 0) hT rfl rfl rfl rfl rfl rfl (by show ((encB (out ++ hd) ++ [[Dat.int .u8 (IntKind.u8.wrap (tn : Int))]] ++ encB (lenB c.length)).length + (encB c).length) * (1 + 1) ≤ _; rw [List.length_append, List.length_append, List.length_singleton]; omega)) rfl ?_
    refine ww ?_
    have hres : encB (wrL (l.take (i + 1))) = encB (out ++ hd) ++ [[Dat.int .u8 (IntKind.u8.wrap (tn : Int))]] ++ encB (lenB c.length) ++ encB c := by
      rw [hsucc, hlo]; simp only [encB_append, List.append_assoc]; rfl
    refine ⟨i + 1, [_], by omega, by omega, ⟨AV.le.eq (by rw [hres]; rfl), .refl _, .refl _, AV.le.eq (by show AV.d (.int .i64 (IntKind.i64.wrap ((i : Int) + 1))) = _; rw [hwr]), trivial⟩, ⟨⟨rfl, by rw [hres]⟩, ObLe.refl _, trivial⟩, Env.below_mono hE (by simp), rfl, rfl⟩
  · have hge : i = l.length := by rw [hlen] at h1; simp at h1; omega
    subst hge
    rw [List.take_length]
    refine ww ?_
    exact ret_exact rfl AV.le.dat rfl rfl rfl rfl ⟨rfl, rfl⟩

set_option maxHeartbeats 4000000 in
set_option maxRecDepth 100000 in
theorem Encode_spec (l : List Node) (hl : l.length ≤ 1000000000) (hf : fitL l) (hsz : sizeL l ≤ 100000000) (hw : (wrL l).length ≤ 1000000000) :
    Spec Tryz.prog 94 [.d (.sl 3 (encNs l))] [] (fun r h' => r = .tup [.d (.sl 1 (encB (encodeP l).1)), .d (.int .i64 (encodeP l).2)] ∧ h' = []) := by
  have hchk := check_spec (sizeL l) 1 l 0 (Nat.le_refl _) hf hl (by omega) (by omega)
  have htag := chkL_tags 1 l 0
  have hcnt := chkL_count 1 l 0
  unfold encodeP
  generalize chkL 1 l 0 = q at hchk htag hcnt
  obtain ⟨e, c⟩ := q
  simp only at hchk htag hcnt ⊢
  refine Spec_of_body hT Tryz.func94 rfl rfl rfl rfl ?_
  intro E hE
  refine ww ?_
  refine AWk_op (callS1 rfl rfl hchk [0] (by decide) rfl rfl rfl rfl rfl rfl rfl) rfl ?_
  refine ww ?_
  refine AW_condL rfl (fun h1 => ?_) (fun h1 => ?_)
  · have h1' : e ≠ 0 := by simpa using h1
    rw [if_pos h1']
    refine ww ?_
    exact ret_exact (r := .tup [.d (.sl 1 (encB [])), .d (.int .i64 e)]) rfl (AV.le.tup ⟨AV.le.nils, .refl _, trivial⟩) rfl rfl rfl rfl ⟨rfl, rfl⟩
  · have h1' : ¬ e ≠ 0 := by simpa using h1
    rw [if_neg h1']
    refine ww ?_
    refine AW_condL rfl (fun h2 => ?_) (fun h2 => ?_)
    · have h2' : c > 256 := by simp at h2; omega
      rw [if_pos h2']
      refine ww ?_
      exact ret_exact (r := .tup [.d (.sl 1 (encB [])), .d (.int .i64 2)]) rfl (AV.le.tup ⟨AV.le.nils, .refl _, trivial⟩) rfl rfl rfl rfl ⟨rfl, rfl⟩
    · have h2' : ¬ c > 256 := by simp at h2; omega
      rw [if_neg h2']
      have hwr := write_spec (sizeL l) l (Nat.le_refl _) (htag (by omega)) hl hf hw
      have hwl := encB_length (wrL l)
      generalize wrL l = s at hwr hwl
      refine ww ?_
      refine AWk_op (callS0 rfl rfl hwr rfl rfl rfl) rfl ?_
      refine ww ?_
      refine AW_condL rfl (fun h3 => ?_) (fun h3 => ?_)
      · have h3' : s.length > 4096 := by rw [hwl] at h3; simp at h3; omega
        rw [if_pos h3']
        refine ww ?_
        exact ret_exact (r := .tup [.d (.sl 1 (encB [])), .d (.int .i64 2)]) rfl (AV.le.tup ⟨AV.le.nils, .refl _, trivial⟩) rfl rfl rfl rfl ⟨rfl, rfl⟩
      · have h3' : ¬ s.length > 4096 := by rw [hwl] at h3; simp at h3; omega
        rw [if_neg h3']
        refine ww ?_
        exact ret_exact rfl (.refl _) rfl rfl rfl rfl ⟨rfl, rfl⟩
end Tdoc
/- The reference's check, count, lengths, writing, Encode; and that they say what the program says. -/
set_option linter.unusedVariables false
set_option linter.unusedSimpArgs false
namespace Tdoc
open Go Go.Proofs

mutual
theorem chkN_any (d : Nat) : ∀ (n : Node) (c c' : Nat), (chkN d n c).1 = (chkN d n c').1
  | .mk t v k, c, c' => by
    rw [chkN, chkN]
    split
    · rfl
    · split
      · rfl
      · split
        · rfl
        · exact chkL_any (d + 1) k _ _
theorem chkL_any (d : Nat) : ∀ (l : List Node) (c c' : Nat), (chkL d l c).1 = (chkL d l c').1
  | [], c, c' => rfl
  | a :: l, c, c' => by
    rw [chkL, chkL, chkN_any d a c c']
    split
    · exact chkL_any d l _ _
    · exact chkN_any d a c c'
end

set_option maxHeartbeats 8000000 in
set_option maxRecDepth 100000 in
theorem checkR_spec : ∀ (n d : Nat) (l : List Node), sizeL l ≤ n → fitL l → l.length ≤ 1000000000 → d ≤ 1000 →
    Spec Tryz.prog 177 [.d (.sl 3 (encNs l)), .d (.int .i64 (d : Int))] [] (fun r h' => r = .d (.int .i64 (chkL d l 0).1) ∧ h' = []) := by
  intro n
  induction n using Nat.strongRecOn with
  | _ n ih =>
  intro d l hsz hf hl hd
  have hlen := encNs_length l
  refine Spec_of_body hT Tryz.func177 rfl rfl rfl rfl ?_
  intro E hE
  generalize hfin : (chkL d l 0).1 = fin
  refine ww ?_
  refine AW_loopC (ι := Nat) (fun i => [(0, .d (.sl 3 (encNs l))), (1, .d (.int .i64 (d : Int))), (5, .d (.int .i64 (i : Int)))]) (fun _ => []) (fun i => i ≤ l.length ∧ (chkL d (l.drop i) 0).1 = fin) (fun i => l.length - i) 0 ⟨by omega, by simpa using hfin⟩
    ⟨.refl _, .refl _, .refl _, trivial⟩ (HLe.refl _) ?_
  rintro i ⟨hi, hg⟩
  have hwr : IntKind.i64.wrap ((i : Int) + 1) = ((i + 1 : Nat) : Int) := by rw [wrap_id (by omega)]; simp
  refine ww ?_
  refine AW_condL rfl (fun h1 => ?_) (fun h1 => ?_)
  · have hlt : i < l.length := by rw [hlen] at h1; simpa using h1
    have hdrop : l.drop i = l[i] :: l.drop (i + 1) := by simp
    have hel : (encNs l)[((i : Int)).toNat]? = some (encN l[i]) := by simp [encNs_eq, hlt]
    have hsd := sizeL_drop l i hlt
    have hsl := sizeL_drop_le l i
    have hfi := fitL_at hf l[i] (List.getElem_mem hlt)
    rw [hdrop, chkL] at hg
    generalize l[i] = x at hel hsd hfi hg
    obtain ⟨t, v, k⟩ := x
    rw [encN] at hel
    have hv := ValidR_spec t hfi.1
    have hcon := ConstructedR_spec t hfi.1
    have hkl := encNs_length k
    have hvl := encB_length v
    have hsk : sizeN (.mk t v k) = 1 + sizeL k := by rw [sizeN]
    rw [chkN] at hg
    generalize tagOk t = ok at hv hg
    generalize tagCons t = con at hcon hg
    refine ww ?_
    refine AWk_op (OpS_of_pure (indexAddr_ok hT rfl rfl rfl rfl (by omega) hel)) rfl ?_
    refine ww ?_
    refine AWk_op (callS0 rfl rfl hv rfl rfl rfl) rfl ?_
    refine ww ?_
    refine AW_condL rfl (fun h2 => ?_) (fun h2 => ?_)
    · have h2' : ok = false := by simpa using h2
      simp only [if_pos h2', show ¬ (4 : Int) = 0 by omega, if_false] at hg
      subst hg
      refine ww ?_
      exact ret_exact rfl (.refl _) rfl rfl rfl rfl ⟨rfl, rfl⟩
    · have h2' : ¬ ok = false := by simpa using h2
      simp only [if_neg h2'] at hg
      refine ww ?_
      refine AWk_op (callS0 rfl rfl hcon rfl rfl rfl) rfl ?_
      refine ww ?_
      refine AWk_gop rfl rfl rfl (fun hg => ⟨by first | exact True.intro | exact ⟨hg, True.intro⟩ | exact ⟨hg, hg, True.intro⟩, callS0 rfl rfl hcon rfl rfl rfl⟩) ?_
      refine ww ?_
      have hcd : ((con && decide (((encB v).length : Int) > 0)) || (!con && decide (((encNs k).length : Int) > 0))) = true ↔ ((con = false ∧ k ≠ []) ∨ (con = true ∧ v ≠ [])) := by
        rw [hkl, hvl, Bool.or_eq_true, Bool.and_eq_true, Bool.and_eq_true, len_pos, len_pos, Bool.not_eq_true']
        exact Or.comm
      refine AW_condL rfl (fun h3 => ?_) (fun h3 => ?_)
      · have hp := hcd.1 h3
        simp only [if_pos hp, show ¬ (1 : Int) = 0 by omega, if_false] at hg
        subst hg
        refine ww ?_
        exact ret_exact rfl (.refl _) rfl rfl rfl rfl ⟨rfl, rfl⟩
      · have hp : ¬ ((con = false ∧ k ≠ []) ∨ (con = true ∧ v ≠ [])) := fun hh => by have := hcd.2 hh; rw [h3] at this; cases this
        simp only [if_neg hp] at hg
        refine ww ?_
        refine AW_condL rfl (fun h5 => ?_) (fun h5 => ?_)
        · have h5' : 8 < d := by simp at h5; omega
          simp only [if_pos h5', show ¬ (7 : Int) = 0 by omega, if_false] at hg
          subst hg
          refine ww ?_
          exact ret_exact rfl (.refl _) rfl rfl rfl rfl ⟨rfl, rfl⟩
        · have h5' : ¬ 8 < d := by simp at h5; omega
          simp only [if_neg h5'] at hg
          have hwd : IntKind.i64.wrap ((d : Int) + 1) = ((d + 1 : Nat) : Int) := by rw [wrap_id (by omega)]; simp
          have hrec := ih (sizeL k) (by omega) (d + 1) k (Nat.le_refl _) hfi.2.2.2 hfi.2.2.1 (by omega)
          rw [← hwd] at hrec
          have hg2 : (if (chkL (d + 1) k 0).1 = 0 then (chkL d (l.drop (i + 1)) 0).1 else (chkL (d + 1) k 0).1) = fin := by
            rw [← hg, chkL_any (d + 1) k 0 (0 + 1)]
            by_cases h0 : (chkL (d + 1) k (0 + 1)).1 = 0
            · rw [if_pos h0, if_pos h0]; exact chkL_any _ _ _ _
            · rw [if_neg h0, if_neg h0]
          replace hg := hg2
          generalize (chkL (d + 1) k 0).1 = e at hrec hg
          refine ww ?_
          refine AWk_op (callS0 rfl rfl hrec rfl rfl rfl) rfl ?_
          refine ww ?_
          refine AW_condL rfl (fun h6 => ?_) (fun h6 => ?_)
          · have h6' : ¬ e = 0 := by simpa using h6
            rw [if_neg h6'] at hg
            subst hg
            refine ww ?_
            exact ret_exact rfl (.refl _) rfl rfl rfl rfl ⟨rfl, rfl⟩
          · have h6' : e = 0 := by simpa using h6
            rw [if_pos h6'] at hg
            refine ww ?_
            exact ⟨i + 1, [_], ⟨by omega, hg⟩, by omega, ⟨.refl _, .refl _, AV.le.eq (by show AV.d (.int .i64 (IntKind.i64.wrap ((i : Int) + 1))) = _; rw [hwr]), trivial⟩, HLe.refl _, hE, rfl, rfl⟩
  · have hge : i = l.length := by rw [hlen] at h1; simp at h1; omega
    subst hge
    simp only [List.drop_length, chkL] at hg
    subst hg
    refine ww ?_
    exact ret_exact rfl (.refl _) rfl rfl rfl rfl ⟨rfl, rfl⟩

/-! count, up to a limit -/
mutual
def cntN (most : Nat) : Node → Nat
  | .mk _ _ k => 1 + cntL most k 0
def cntL (most : Nat) : List Node → Nat → Nat
  | [], n => n
  | a :: l, n => if n ≤ most then cntL most l (n + cntN most a) else n
end

mutual
theorem cntN_ok (most : Nat) : ∀ (n : Node), (sizeN n ≤ most → cntN most n = sizeN n) ∧ (most < sizeN n → most < cntN most n)
  | .mk t v k => by
    have h := cntL_ok most k 0
    rw [sizeN, cntN]
    refine ⟨fun h1 => ?_, fun h1 => ?_⟩
    · have := h.1 (by omega); omega
    · by_cases h2 : 0 + sizeL k ≤ most
      · have := h.1 h2; omega
      · have := h.2 (by omega); omega
theorem cntL_ok (most : Nat) : ∀ (l : List Node) (n : Nat), (n + sizeL l ≤ most → cntL most l n = n + sizeL l) ∧ (most < n + sizeL l → most < cntL most l n)
  | [], n => by simp [cntL, sizeL]
  | a :: l, n => by
    have ha := cntN_ok most a
    have hl := cntL_ok most l (n + cntN most a)
    rw [sizeL, cntL]
    refine ⟨fun h1 => ?_, fun h1 => ?_⟩
    · rw [if_pos (by omega)]
      have h2 := ha.1 (by omega)
      have := hl.1 (by omega)
      omega
    · split
      · by_cases h2 : sizeN a ≤ most
        · have h3 := ha.1 h2
          exact hl.2 (by omega)
        · have h3 := ha.2 (by omega)
          exact hl.2 (by omega)
      · omega
end

mutual
theorem cntN_le (most : Nat) : ∀ (n : Node), cntN most n ≤ sizeN n
  | .mk t v k => by have := cntL_le most k 0; rw [sizeN, cntN]; omega
theorem cntL_le (most : Nat) : ∀ (l : List Node) (n : Nat), cntL most l n ≤ n + sizeL l
  | [], n => by simp [cntL, sizeL]
  | a :: l, n => by
    have ha := cntN_le most a
    have hl := cntL_le most l (n + cntN most a)
    rw [sizeL, cntL]
    split <;> omega
end

set_option maxHeartbeats 8000000 in
set_option maxRecDepth 100000 in
theorem Count_spec (most : Nat) (hm : most ≤ 1000000) : ∀ (n : Nat) (l : List Node), sizeL l ≤ n → n ≤ 1000000000 → l.length ≤ 1000000000 → fitL l →
    Spec Tryz.prog 178 [.d (.sl 3 (encNs l)), .d (.int .i64 (most : Int))] [] (fun r h' => r = .d (.int .i64 (cntL most l 0 : Int)) ∧ h' = []) := by
  intro n
  induction n using Nat.strongRecOn with
  | _ n ih =>
  intro l hsz hn hl hf
  have hlen := encNs_length l
  refine Spec_of_body hT Tryz.func178 rfl rfl rfl rfl ?_
  intro E hE
  generalize hfin : cntL most l 0 = fin
  refine ww ?_
  refine AW_loopL (ι := Nat × Nat) (fun x => [(0, .d (.sl 3 (encNs l))), (1, .d (.int .i64 (most : Int))), (5, .d (.int .i64 (x.2 : Int))), (6, .d (.int .i64 (x.1 : Int)))]) (fun _ => []) (fun x => x.1 ≤ l.length ∧ x.2 + sizeL (l.drop x.1) ≤ 1000000000 ∧ cntL most (l.drop x.1) x.2 = fin) (fun x => l.length - x.1) (0, 0) ⟨by simp, by simp only [List.drop_zero]; omega, by simpa using hfin⟩
    ⟨.refl _, .refl _, .refl _, .refl _, trivial⟩ (HLe.refl _) ?_
  rintro ⟨i, c⟩ ⟨hi, hc, hg⟩
  simp only at hi hc hg ⊢
  have hwr : IntKind.i64.wrap ((i : Int) + 1) = ((i + 1 : Nat) : Int) := by rw [wrap_id (by omega)]; simp
  refine ww ?_
  refine AW_condL rfl (fun h1 => ?_) (fun h1 => ?_)
  · have h1' : i < l.length ∧ c ≤ most := by rw [hlen] at h1; simp at h1; omega
    have hlt := h1'.1
    have hdrop : l.drop i = l[i] :: l.drop (i + 1) := by simp
    have hel : (encNs l)[((i : Int)).toNat]? = some (encN l[i]) := by simp [encNs_eq, hlt]
    have hsd := sizeL_drop l i hlt
    have hsl := sizeL_drop_le l i
    have hfi := fitL_at hf l[i] (List.getElem_mem hlt)
    have hcn := cntN_le most l[i]
    rw [hdrop, cntL, if_pos h1'.2] at hg
    generalize l[i] = x at hel hsd hfi hg hcn
    obtain ⟨t, v, k⟩ := x
    rw [encN] at hel
    have hsk : sizeN (.mk t v k) = 1 + sizeL k := by rw [sizeN]
    have hrec := ih (sizeL k) (by omega) k (Nat.le_refl _) (by omega) hfi.2.2.1 hfi.2.2.2
    rw [cntN] at hg hcn
    generalize cntL most k 0 = ck at hrec hg hcn
    have hw1 : IntKind.i64.wrap (1 + (ck : Int)) = 1 + (ck : Int) := wrap_id (by omega)
    have hw2 : IntKind.i64.wrap ((c : Int) + IntKind.i64.wrap (1 + (ck : Int))) = ((c + (1 + ck) : Nat) : Int) := by rw [hw1, wrap_id (by omega)]; omega
    refine ww ?_
    refine AWk_op (OpS_of_pure (indexAddr_ok hT rfl rfl rfl rfl (by omega) hel)) rfl ?_
    refine ww ?_
    refine AWk_op (callS0 rfl rfl hrec rfl rfl rfl) rfl ?_
    refine ww ?_
    exact ⟨(i + 1, c + (1 + ck)), ⟨by simp only; omega, by simp only; omega, hg⟩, by simp only; omega, ⟨.refl _, .refl _, AV.le.eq (by show AV.d (.int .i64 (IntKind.i64.wrap ((c : Int) + IntKind.i64.wrap (1 + (ck : Int))))) = _; rw [hw2]), AV.le.eq (by show AV.d (.int .i64 (IntKind.i64.wrap ((i : Int) + 1))) = _; rw [hwr]), trivial⟩, HLe.refl _⟩
  · have h1' : ¬ (i < l.length ∧ c ≤ most) := by rw [hlen] at h1; simp at h1; omega
    have hce : c = fin := by
      by_cases h2 : i < l.length
      · have hdrop : l.drop i = l[i] :: l.drop (i + 1) := by simp
        rw [hdrop, cntL, if_neg (by omega)] at hg
        exact hg
      · have : i = l.length := by omega
        subst this
        rw [List.drop_length, cntL] at hg
        exact hg
    subst hce
    refine ww ?_
    exact ret_exact rfl (.refl _) rfl rfl rfl rfl ⟨rfl, rfl⟩
end Tdoc
/- The reference's writing and Encode, and that it is the program's. -/
set_option linter.unusedVariables false
set_option linter.unusedSimpArgs false
namespace Tdoc
open Go Go.Proofs

def lenR (n : Nat) : List UInt8 := if n ≤ 127 then [UInt8.ofNat n] else if n ≤ 255 then [129, UInt8.ofNat n] else [130, UInt8.ofNat (n / 256 % 256), UInt8.ofNat (n % 256)]
def cap4 (c : List UInt8) : List UInt8 := if c.length > 4096 then c.take 4097 else c
mutual
def rawN : Node → List UInt8
  | .mk t v k => tagB t ++ lenR (cap4 (if tagCons t = true then rawL k [] else v)).length ++ cap4 (if tagCons t = true then rawL k [] else v)
def rawL : List Node → List UInt8 → List UInt8
  | [], out => out
  | a :: l, out => if out.length ≤ 4096 then rawL l (out ++ rawN a) else out
end

theorem cap4_le (c : List UInt8) : (cap4 c).length ≤ 4097 := by
  unfold cap4
  split
  · rw [List.length_take]; omega
  · omega
theorem lenR_le (n : Nat) : (lenR n).length ≤ 3 := by unfold lenR; split <;> (try split) <;> simp
theorem tagB_le (t : Int) : (tagB t).length ≤ 2 := by unfold tagB; split <;> simp
theorem rawN_le : ∀ (n : Node), (rawN n).length ≤ 4102
  | .mk t v k => by
    rw [rawN]
    have := cap4_le (if tagCons t = true then rawL k [] else v)
    have := lenR_le (cap4 (if tagCons t = true then rawL k [] else v)).length
    have := tagB_le t
    simp only [List.length_append]; omega
theorem rawL_le : ∀ (l : List Node) (out : List UInt8), out.length ≤ 8198 → (rawL l out).length ≤ 8198
  | [], out, h => h
  | a :: l, out, h => by
    rw [rawL]
    split
    · refine rawL_le l _ ?_
      have := rawN_le a
      rw [List.length_append]; omega
    · exact h

theorem lenR_eq {n : Nat} (h : n ≤ 4097) : lenR n = lenB n := by
  unfold lenR lenB
  by_cases h1 : n ≤ 127
  · rw [if_pos h1, if_pos (by omega)]
  · rw [if_neg h1, if_neg (show ¬ n < 128 by omega)]
    by_cases h2 : n ≤ 255
    · have hd : digs 8 n = [UInt8.ofNat n] := by
        have hz : n / 256 = 0 := by omega
        show (digL (7 + 1) n).reverse = _
        rw [digL, if_neg (by omega), hz, digL_zero, Nat.mod_eq_of_lt (by omega)]
        rfl
      rw [if_pos h2, hd]; rfl
    · have hd : digs 8 n = [UInt8.ofNat (n / 256 % 256), UInt8.ofNat (n % 256)] := by
        have hz : n / 256 / 256 = 0 := by omega
        show (digL (6 + 1 + 1) n).reverse = _
        rw [digL, if_neg (by omega), digL, if_neg (by omega), hz, digL_zero]
        rfl
      rw [if_neg h2, hd]; rfl

mutual
theorem rawN_ok : ∀ (n : Node), ((wrN n).length ≤ 4096 → rawN n = wrN n) ∧ (4096 < (wrN n).length → 4096 < (rawN n).length)
  | .mk t v k => by
    have hk := rawL_ok k []
    rw [rawN, wrN]
    generalize hcw : (if tagCons t = true then wrL k else v) = cw
    generalize hcr : (if tagCons t = true then rawL k [] else v) = cr
    have hc : (cw.length ≤ 4096 → cr = cw) ∧ (4096 < cw.length → 4096 < cr.length) := by
      by_cases hcon : tagCons t = true
      · rw [if_pos hcon] at hcw hcr
        subst hcw; subst hcr
        simpa using hk
      · rw [if_neg hcon] at hcw hcr
        subst hcw; subst hcr
        exact ⟨fun _ => rfl, fun h => h⟩
    refine ⟨fun h => ?_, fun h => ?_⟩
    · simp only [List.length_append] at h
      have h1 : cw.length ≤ 4096 := by omega
      rw [hc.1 h1]
      have h2 : cap4 cw = cw := by unfold cap4; rw [if_neg (by omega)]
      rw [h2, lenR_eq (by omega)]
    · by_cases h1 : cw.length ≤ 4096
      · rw [hc.1 h1]
        have h2 : cap4 cw = cw := by unfold cap4; rw [if_neg (by omega)]
        rw [h2, lenR_eq (by omega)]
        exact h
      · have h3 := hc.2 (by omega)
        have h2 : (cap4 cr).length = 4097 := by unfold cap4; rw [if_pos h3]; simp; omega
        simp only [List.length_append, h2]; omega
theorem rawL_ok : ∀ (l : List Node) (out : List UInt8), ((out ++ wrL l).length ≤ 4096 → rawL l out = out ++ wrL l) ∧ (4096 < (out ++ wrL l).length → 4096 < (rawL l out).length)
  | [], out => by simp [rawL, wrL]
  | a :: l, out => by
    have ha := rawN_ok a
    have hl := rawL_ok l (out ++ rawN a)
    rw [rawL, wrL]
    simp only [List.length_append] at hl ⊢
    refine ⟨fun h => ?_, fun h => ?_⟩
    · have h1 := ha.1 (by omega)
      rw [h1] at hl ⊢
      rw [if_pos (by omega), hl.1 (by omega), List.append_assoc]
    · split
      · by_cases h1 : (wrN a).length ≤ 4096
        · have h2 := ha.1 h1
          rw [h2] at hl ⊢
          exact hl.2 (by omega)
        · have h2 := ha.2 (by omega)
          exact hl.2 (by omega)
      · omega
end

/-- What the reference's Encode says is what the program's says. -/
theorem encodeR_eq (l : List Node) : encodeP l = if (chkL 1 l 0).1 ≠ 0 then ([], (chkL 1 l 0).1) else if cntL 256 l 0 > 256 then ([], 2) else if (rawL l []).length > 4096 then ([], 2) else (rawL l [], 0) := by
  unfold encodeP
  by_cases h1 : (chkL 1 l 0).1 ≠ 0
  · rw [if_pos h1, if_pos h1]
  · rw [if_neg h1, if_neg h1]
    have hc := (chkL_count 1 l 0).2 (by omega)
    have hn := cntL_ok 256 l 0
    have hr := rawL_ok l []
    simp only [List.nil_append] at hr
    by_cases h2 : sizeL l > 256
    · rw [if_pos (by omega), if_pos (hn.2 (by omega))]
    · have := hn.1 (by omega)
      rw [if_neg (show ¬ (chkL 1 l 0).2 > 256 by omega), if_neg (show ¬ cntL 256 l 0 > 256 by omega)]
      by_cases h3 : (wrL l).length > 4096
      · rw [if_pos h3, if_pos (hr.2 h3)]
      · rw [if_neg h3, hr.1 (by omega), if_neg h3]

set_option maxHeartbeats 2000000 in
set_option maxRecDepth 100000 in
theorem lengthR_spec (n : Nat) (hn : n ≤ 65535) : Spec Tryz.prog 234 [.d (.int .i64 (n : Int))] [] (fun r h' => r = .d (.sl 1 (encB (lenR n))) ∧ h' = []) := by
  refine Spec_of_body hT Tryz.func234 rfl rfl rfl rfl ?_
  intro E hE
  refine ww ?_
  refine AW_condL rfl (fun h1 => ?_) (fun h1 => ?_)
  · have h1' : n ≤ 127 := by simp at h1; omega
    have hw8 : IntKind.u8.wrap (n : Int) = ((UInt8.ofNat n).toNat : Int) := by rw [toNat_ofNat (by omega)]; exact wrapu8 (by omega)
    rw [show lenR n = [UInt8.ofNat n] by unfold lenR; rw [if_pos h1'], show encB [UInt8.ofNat n] = [[.int .u8 (IntKind.u8.wrap (n : Int))]] by rw [hw8]; rfl]
    refine ww ?_
    exact ret_exact rfl AV.le.dat rfl rfl rfl rfl ⟨rfl, rfl⟩
  · have h1' : ¬ n ≤ 127 := by simp at h1; omega
    refine ww ?_
    refine AW_condL rfl (fun h2 => ?_) (fun h2 => ?_)
    · have h2' : n ≤ 255 := by simp at h2; omega
      have hw8 : IntKind.u8.wrap (n : Int) = ((UInt8.ofNat n).toNat : Int) := by rw [toNat_ofNat (by omega)]; exact wrapu8 (by omega)
      rw [show lenR n = [129, UInt8.ofNat n] by unfold lenR; rw [if_neg h1', if_pos h2'], show encB [129, UInt8.ofNat n] = [[.int .u8 129], [.int .u8 (IntKind.u8.wrap (n : Int))]] by rw [hw8]; rfl]
      refine ww ?_
      exact ret_exact rfl AV.le.dat rfl rfl rfl rfl ⟨rfl, rfl⟩
    · have h2' : ¬ n ≤ 255 := by simp at h2; omega
      have hlo : IntKind.u8.wrap (n : Int) = ((UInt8.ofNat (n % 256)).toNat : Int) := by rw [wrapu8_mod, toNat_ofNat (Nat.mod_lt _ (by omega))]; simp
      have hshr : Int.fdiv (n : Int) (2 ^ (min (8 : Int).toNat IntKind.i64.bits)) = ((n / 256 : Nat) : Int) := shr_nat n 8
      have hhi : IntKind.u8.wrap (Int.fdiv (n : Int) (2 ^ (min (8 : Int).toNat IntKind.i64.bits))) = ((UInt8.ofNat (n / 256 % 256)).toNat : Int) := by rw [hshr, wrapu8_mod, toNat_ofNat (Nat.mod_lt _ (by omega))]; simp
      rw [show lenR n = [130, UInt8.ofNat (n / 256 % 256), UInt8.ofNat (n % 256)] by unfold lenR; rw [if_neg h1', if_neg h2'],
        show encB [130, UInt8.ofNat (n / 256 % 256), UInt8.ofNat (n % 256)] = [[.int .u8 130], [.int .u8 (IntKind.u8.wrap (Int.fdiv (n : Int) (2 ^ (min (8 : Int).toNat IntKind.i64.bits))))], [.int .u8 (IntKind.u8.wrap (n : Int))]] by rw [hlo, hhi]; rfl]
      refine ww ?_
      exact ret_exact rfl AV.le.dat rfl rfl rfl rfl ⟨rfl, rfl⟩
end Tdoc
/- The reference's raw writing and its Encode; Prim and Cons. -/
set_option linter.unusedVariables false
set_option linter.unusedSimpArgs false
namespace Tdoc
open Go Go.Proofs

theorem rawL_drop_le {l : List Node} {out : List UInt8} (h : out.length ≤ 8198) : (rawL l out).length ≤ 8198 := rawL_le l out h
theorem cap4_encB (c : List UInt8) (h : 4096 < c.length) : (encB c).take 4097 = encB (cap4 c) := by unfold cap4; rw [if_pos h, encB_take]

set_option maxHeartbeats 8000000 in
set_option maxRecDepth 100000 in
theorem raw_spec : ∀ (n : Nat) (l : List Node), sizeL l ≤ n → tagsL l → l.length ≤ 1000000000 → fitL l →
    Spec Tryz.prog 179 [.d (.sl 3 (encNs l))] [] (fun r h' => r = .d (.sl 1 (encB (rawL l []))) ∧ h' = []) := by
  intro n
  induction n using Nat.strongRecOn with
  | _ n ih =>
  intro l hsz htg hl hf
  have hlen := encNs_length l
  generalize hfin : rawL l [] = fin
  refine Spec_of_body hT Tryz.func179 rfl rfl rfl rfl ?_
  intro E hE
  refine AW_room ?_
  refine AW_seq (AW_region ?_)
  refine wws ?_
  refine AW_seq (AW_region ?_)
  refine wws ?_
  refine AW_acquireAt 3 1 0 (es := []) (.inr ⟨rfl, rfl⟩) rfl ?_
  refine ww ?_
  refine AW_loopL (ι := Nat × List UInt8) (fun x => [(3, .sl 1 (encB x.2) (.right 0)), (0, .d (.sl 3 (encNs l))), (4, .d (.int .i64 (x.1 : Int)))]) (fun x => [.right 1 (encB x.2).length])
    (fun x => x.1 ≤ l.length ∧ x.2.length ≤ 8198 ∧ rawL (l.drop x.1) x.2 = fin) (fun x => l.length - x.1) (0, []) ⟨by simp, by simp, by simpa using hfin⟩ ⟨.refl _, .refl _, .refl _, trivial⟩ (HLe.refl _) ?_
  rintro ⟨i, out⟩ ⟨hi, hob, hg⟩
  simp only at hi hob hg ⊢
  have hwr : IntKind.i64.wrap ((i : Int) + 1) = ((i + 1 : Nat) : Int) := by rw [wrap_id (by omega)]; simp
  have hol := encB_length out
  refine ww ?_
  refine AW_condL rfl (fun h1 => ?_) (fun h1 => ?_)
  · have h1' : i < l.length ∧ out.length ≤ 4096 := by rw [hlen, hol] at h1; simp at h1; omega
    have hlt := h1'.1
    have hdrop : l.drop i = l[i] :: l.drop (i + 1) := by simp
    have hel : (encNs l)[((i : Int)).toNat]? = some (encN l[i]) := by simp [encNs_eq, hlt]
    have hmem : l[i] ∈ l := List.getElem_mem hlt
    have hsm := sizeN_mem hmem
    have htm := tagsL_at htg _ hmem
    have hfm := fitL_at hf _ hmem
    have hrn := rawN_le l[i]
    rw [hdrop, rawL, if_pos h1'.2] at hg
    generalize l[i] = x at hel hsm htm hfm hg hrn
    obtain ⟨t, v, k⟩ := x
    rw [encN] at hel
    rw [sizeN] at hsm
    have htr := tagOk_range htm.1
    obtain ⟨tn, rfl⟩ := Int.eq_ofNat_of_zero_le (show 0 ≤ t by omega)
    have hcon := ConstructedR_spec (tn : Int) (by omega)
    have hrec : Spec Tryz.prog 179 [.d (.sl 3 (encNs k))] [] (fun r h' => r = .d (.sl 1 (encB (rawL k []))) ∧ h' = []) := ih (sizeL k) (by omega) k (Nat.le_refl _) htm.2 hfm.2.2.1 hfm.2.2.2
    rw [rawN] at hg hrn
    have hkb := rawL_le k [] (by simp)
    generalize tagCons (tn : Int) = con at hcon hg hrn
    generalize rawL k [] = rk at hrec hg hrn hkb
    generalize hc : (if con = true then rk else v) = c at hg hrn
    have hcl := cap4_le c
    have hll := encB_length (cap4 c)
    have hlsp : Spec Tryz.prog 234 [.d (.int .i64 ((encB (cap4 c)).length : Int))] [] (fun r h' => r = .d (.sl 1 (encB (lenR (cap4 c).length))) ∧ h' = []) := by rw [hll]; exact lengthR_spec (cap4 c).length (by omega)
    have hlo : IntKind.u8.wrap (tn : Int) = ((UInt8.ofNat (tn % 256)).toNat : Int) := by rw [wrapu8_mod, toNat_ofNat (Nat.mod_lt _ (by omega))]; simp
    have hshr : Int.fdiv (tn : Int) (2 ^ (min (8 : Int).toNat IntKind.i64.bits)) = ((tn / 256 : Nat) : Int) := shr_nat tn 8
    have hhi : IntKind.u8.wrap (Int.fdiv (tn : Int) (2 ^ (min (8 : Int).toNat IntKind.i64.bits))) = ((UInt8.ofNat (tn / 256 % 256)).toNat : Int) := by rw [hshr, wrapu8_mod, toNat_ofNat (Nat.mod_lt _ (by omega))]; simp
    generalize hhd : (if tn > 255 then [UInt8.ofNat (tn / 256 % 256)] else []) = hd
    have htb : tagB (tn : Int) = hd ++ [UInt8.ofNat (tn % 256)] := by
      have e1 : ((tn : Int) / 256 % 256).toNat = tn / 256 % 256 := by omega
      have e2 : ((tn : Int) % 256).toNat = tn % 256 := by omega
      unfold tagB
      rw [e1, e2, ← hhd]
      by_cases h9 : tn > 255
      · rw [if_pos (by omega), if_pos h9]; rfl
      · rw [if_neg (by omega), if_neg h9]; rfl
    rw [htb] at hg hrn
    simp only [List.length_append, List.length_singleton] at hrn
    refine AW_skip ?_
    refine AW_seq (AW_block (AW_seq (AW_region ?_)))
    refine wws ?_
    refine AWk_op (OpS_of_pure (indexAddr_ok hT rfl rfl rfl rfl (by omega) hel)) rfl ?_
    refine wws ?_
    refine AW_seq_cut (ι := Unit) (fun _ => [(3, .sl 1 (encB out) (.right 0)), (0, .d (.sl 3 (encNs l))), (4, .d (.int .i64 (i : Int))), (5, .d (.sl 1 (encB c)))])
      (fun _ => [.right 1 (encB out).length]) (fun _ => True) ?_ (fun _ _ => ?_)
    · refine ww ?_
      refine AWk_op (OpS_of_pure (indexAddr_ok hT rfl rfl rfl rfl (by omega) hel)) rfl ?_
      refine wws ?_
      refine AWk_op (callS0 rfl rfl hcon rfl rfl rfl) rfl ?_
      refine wws ?_
      refine AW_condL rfl (fun h2 => ?_) (fun h2 => ?_)
      · refine ww ?_
        refine AWk_op (OpS_of_pure (indexAddr_ok hT rfl rfl rfl rfl (by omega) hel)) rfl ?_
        refine wws ?_
        refine AWk_op (callS0 rfl rfl hrec rfl rfl rfl) rfl ?_
        refine ww ?_
        exact ⟨(), trivial, ⟨.refl _, .refl _, .refl _, AV.le.eq (by rw [← hc, if_pos h2]; rfl), trivial⟩, HLe.refl _⟩
      · have h2' : ¬ con = true := by simp [h2]
        refine ww ?_
        exact ⟨(), trivial, ⟨.refl _, .refl _, .refl _, AV.le.eq (by rw [← hc, if_neg h2']; rfl), trivial⟩, HLe.refl _⟩
    refine AW_seq_cut (ι := Unit) (fun _ => [(3, .sl 1 (encB (out ++ hd)) (.right 0)), (0, .d (.sl 3 (encNs l))), (4, .d (.int .i64 (i : Int))), (5, .d (.sl 1 (encB c)))])
      (fun _ => [.right 1 (encB (out ++ hd)).length]) (fun _ => True) ?_ (fun _ _ => ?_)
    · refine ww ?_
      refine AWk_op (OpS_of_pure (indexAddr_ok hT rfl rfl rfl rfl (by omega) hel)) rfl ?_
      refine wws ?_
      refine AW_condL rfl (fun h2 => ?_) (fun h2 => ?_)
      · have h2' : tn > 255 := by simp at h2; omega
        rw [if_pos h2'] at hhd
        subst hhd
        refine ww ?_
        refine AWk_op (OpS_of_pure (indexAddr_ok hT rfl rfl rfl rfl (by omega) hel)) rfl ?_
        refine wws ?_
        refine AWk_op (append_rightL (i := 0) hT rfl rfl rfl rfl rfl rfl (by show ((encB out).length + 1) * (1 + 1) ≤ _; rw [encB_length]; omega)) rfl ?_
        refine ww ?_
        refine ⟨(), trivial, ⟨AV.le.eq ?_, .refl _, .refl _, .refl _, trivial⟩, ⟨⟨rfl, ?_⟩, trivial⟩⟩
        · show AV.sl 1 (encB out ++ [[.int .u8 (IntKind.u8.wrap (Int.fdiv (tn : Int) (2 ^ (min (8 : Int).toNat IntKind.i64.bits))))]]) (.right 0) = _
          rw [hhi, encB_append]; rfl
        · show (encB out ++ [[Dat.int .u8 (IntKind.u8.wrap (Int.fdiv (tn : Int) (2 ^ (min (8 : Int).toNat IntKind.i64.bits))))]]).length = _
          rw [hhi, encB_append]; rfl
      · have h2' : ¬ tn > 255 := by simp at h2; omega
        rw [if_neg h2'] at hhd
        subst hhd
        refine ww ?_
        refine ⟨(), trivial, ⟨AV.le.eq (by rw [List.append_nil]; rfl), .refl _, .refl _, .refl _, trivial⟩, ⟨⟨rfl, by rw [List.append_nil]⟩, trivial⟩⟩
    have hol2 := encB_length (out ++ hd)
    rw [List.length_append] at hol2
    have hlbl := encB_length (lenR (cap4 c).length)
    refine ww ?_
    refine AWk_op (OpS_of_pure (indexAddr_ok hT rfl rfl rfl rfl (by omega) hel)) rfl ?_
    refine wws ?_
    refine AWk_op (append_rightL (i := 0) hT rfl rfl rfl rfl rfl rfl (by show ((encB (out ++ hd)).length + 1) * (1 + 1) ≤ _; omega)) rfl ?_
    refine wws ?_
    refine AW_seq_cut (ι := Unit) (fun _ => [(3, .sl 1 (encB (out ++ hd) ++ [[Dat.int .u8 (IntKind.u8.wrap (tn : Int))]]) (.right 0)), (0, .d (.sl 3 (encNs l))), (4, .d (.int .i64 (i : Int))), (5, .d (.sl 1 (encB (cap4 c))))])
      (fun _ => [.right 1 (encB (out ++ hd) ++ [[Dat.int .u8 (IntKind.u8.wrap (tn : Int))]]).length]) (fun _ => True) ?_ (fun _ _ => ?_)
    · have hcb := encB_length c
      refine ww ?_
      refine AW_condL rfl (fun h2 => ?_) (fun h2 => ?_)
      · have h2' : 4096 < c.length := by rw [hcb] at h2; simp at h2; omega
        refine ww ?_
        exact ⟨(), trivial, ⟨.refl _, .refl _, .refl _, AV.le.eq (by show AV.d (.sl 1 ((encB c).take 4097)) = _; rw [cap4_encB c h2']), trivial⟩, HLe.refl _⟩
      · have h2' : ¬ c.length > 4096 := by rw [hcb] at h2; simp at h2; omega
        refine ww ?_
        exact ⟨(), trivial, ⟨.refl _, .refl _, .refl _, AV.le.eq (by unfold cap4; rw [if_neg h2']; rfl), trivial⟩, HLe.refl _⟩
    refine ww ?_
    refine AWk_op (callS0 rfl rfl hlsp rfl rfl rfl) rfl ?_
    refine AWk_op (append_rightL (i := 0) hT rfl rfl rfl rfl rfl rfl (by show ((encB (out ++ hd) ++ [[Dat.int .u8 (IntKind.u8.wrap (tn : Int))]]).length + (encB (lenR (cap4 c).length)).length) * (1 + 1) ≤ _; rw [List.length_append, List.length_singleton]; omega)) rfl ?_
    refine ww ?_
    refine AWk_op (append_rightL (i := 0) hT rfl rfl rfl rfl rfl rfl (by show ((encB (out ++ hd) ++ [[Dat.int .u8 (IntKind.u8.wrap (tn : Int))]] ++ encB (lenR (cap4 c).length)).length + (encB (cap4 c)).length) * (1 + 1) ≤ _; rw [List.length_append, List.length_append, List.length_singleton]; omega)) rfl ?_
    refine ww ?_
    have hres : encB (out ++ (hd ++ [UInt8.ofNat (tn % 256)] ++ lenR (cap4 c).length ++ cap4 c)) = encB (out ++ hd) ++ [[Dat.int .u8 (IntKind.u8.wrap (tn : Int))]] ++ encB (lenR (cap4 c).length) ++ encB (cap4 c) := by
      rw [hlo]; simp only [encB_append, List.append_assoc]; rfl
    exact ⟨(i + 1, out ++ (hd ++ [UInt8.ofNat (tn % 256)] ++ lenR (cap4 c).length ++ cap4 c)), ⟨by simp only; omega, by simp only [List.length_append, List.length_singleton]; omega, hg⟩, by simp only; omega, ⟨AV.le.eq (by rw [hres]; rfl), .refl _, AV.le.eq (by show AV.d (.int .i64 (IntKind.i64.wrap ((i : Int) + 1))) = _; rw [hwr]), trivial⟩, ⟨⟨rfl, by rw [hres]⟩, trivial⟩⟩
  · have h1' : ¬ (i < l.length ∧ out.length ≤ 4096) := by rw [hlen, hol] at h1; simp at h1; omega
    have hce : out = fin := by
      by_cases h2 : i < l.length
      · have hdrop : l.drop i = l[i] :: l.drop (i + 1) := by simp
        rw [hdrop, rawL, if_neg (by omega)] at hg
        exact hg
      · have : i = l.length := by omega
        subst this
        rw [List.drop_length, rawL] at hg
        exact hg
    subst hce
    refine ww ?_
    exact ret_exact rfl AV.le.dat rfl rfl rfl rfl ⟨rfl, rfl⟩
end Tdoc
/- The reference's Encode; Prim and Cons; Wrap of the program. -/
set_option linter.unusedVariables false
set_option linter.unusedSimpArgs false
namespace Tdoc
open Go Go.Proofs

set_option maxHeartbeats 4000000 in
set_option maxRecDepth 100000 in
theorem EncodeR_spec (l : List Node) (hl : l.length ≤ 1000000000) (hf : fitL l) (hsz : sizeL l ≤ 100000000) :
    Spec Tryz.prog 109 [.d (.sl 3 (encNs l))] [] (fun r h' => r = .tup [.d (.sl 1 (encB (encodeP l).1)), .d (.int .i64 (encodeP l).2)] ∧ h' = []) := by
  have hchk := checkR_spec (sizeL l) 1 l (Nat.le_refl _) hf hl (by omega)
  have htag := chkL_tags 1 l 0
  have hcnt := Count_spec 256 (by omega) (sizeL l) l (Nat.le_refl _) (by omega) hl hf
  rw [encodeR_eq]
  generalize (chkL 1 l 0).1 = e at hchk htag
  generalize cntL 256 l 0 = c at hcnt
  refine Spec_of_body hT Tryz.func109 rfl rfl rfl rfl ?_
  intro E hE
  refine ww ?_
  refine AWk_op (callS0 rfl rfl hchk rfl rfl rfl) rfl ?_
  refine ww ?_
  refine AW_condL rfl (fun h1 => ?_) (fun h1 => ?_)
  · have h1' : e ≠ 0 := by simpa using h1
    rw [if_pos h1']
    refine ww ?_
    exact ret_exact (r := .tup [.d (.sl 1 (encB [])), .d (.int .i64 e)]) rfl (AV.le.tup ⟨AV.le.nils, .refl _, trivial⟩) rfl rfl rfl rfl ⟨rfl, rfl⟩
  · have h1' : ¬ e ≠ 0 := by simpa using h1
    rw [if_neg h1']
    refine ww ?_
    refine AWk_op (callS0 rfl rfl hcnt rfl rfl rfl) rfl ?_
    refine ww ?_
    refine AW_condL rfl (fun h2 => ?_) (fun h2 => ?_)
    · have h2' : c > 256 := by simp at h2; omega
      rw [if_pos h2']
      refine ww ?_
      exact ret_exact (r := .tup [.d (.sl 1 (encB [])), .d (.int .i64 2)]) rfl (AV.le.tup ⟨AV.le.nils, .refl _, trivial⟩) rfl rfl rfl rfl ⟨rfl, rfl⟩
    · have h2' : ¬ c > 256 := by simp at h2; omega
      rw [if_neg h2']
      have hwr := raw_spec (sizeL l) l (Nat.le_refl _) (htag (by omega)) hl hf
      have hwl := encB_length (rawL l [])
      generalize rawL l [] = s at hwr hwl
      refine ww ?_
      refine AWk_op (callS0 rfl rfl hwr rfl rfl rfl) rfl ?_
      refine ww ?_
      refine AW_condL rfl (fun h3 => ?_) (fun h3 => ?_)
      · have h3' : s.length > 4096 := by rw [hwl] at h3; simp at h3; omega
        rw [if_pos h3']
        refine ww ?_
        exact ret_exact (r := .tup [.d (.sl 1 (encB [])), .d (.int .i64 2)]) rfl (AV.le.tup ⟨AV.le.nils, .refl _, trivial⟩) rfl rfl rfl rfl ⟨rfl, rfl⟩
      · have h3' : ¬ s.length > 4096 := by rw [hwl] at h3; simp at h3; omega
        rw [if_neg h3']
        refine ww ?_
        exact ret_exact rfl (.refl _) rfl rfl rfl rfl ⟨rfl, rfl⟩

theorem lenB_le (n : Nat) : (lenB n).length ≤ 9 := by
  have : (digs 8 n).length ≤ 8 := by unfold digs; rw [List.length_reverse]; exact digL_length 8 n
  unfold lenB
  split
  · simp
  · rw [List.length_cons]; omega
theorem wrL_one_le (t : Int) (v : List UInt8) (l : List Node) : (wrL [.mk t v l]).length ≤ 11 + v.length + (wrL l).length := by
  have h1 := lenB_le (wrL l).length
  have h2 := lenB_le v.length
  have h3 := tagB_le t
  simp only [wrL, wrN, List.length_append, List.length_nil]
  split <;> omega
def wrapG (n : Int) (l : List Node) : List UInt8 × Int := if (tagR n).2 ≠ 0 then ([], (tagR n).2) else encodeP [.mk (tagR n).1 [] l]
theorem tagR_range (n : Int) : 0 ≤ (tagR n).1 ∧ (tagR n).1 ≤ 255 := by
  unfold tagR
  split
  · simp
  · rename_i h
    obtain ⟨x, hx, _, _⟩ := tagD_at (i := (n - 1).toNat) (by omega)
    rw [hx]
    have hm := List.mem_of_getElem? hx
    have : ∀ y, y ∈ tagTab → 0 ≤ y ∧ y ≤ 255 := by decide
    exact this x hm

set_option maxRecDepth 100000 in
theorem Cons_spec (t : Int) (k : List Node) : Spec Tryz.prog 110 [.d (.int .i64 t), .d (.sl 3 (encNs k))] [] (fun r h' => r = nAV (.mk t [] k) ∧ h' = []) := by
  refine Spec_of_body hT Tryz.func110 rfl rfl rfl rfl ?_
  intro E hE
  refine ww ?_
  exact ret_exact (r := nAV (.mk t [] k)) rfl (AV.le.agg ⟨.refl _, AV.le.dat, .refl _, trivial⟩) rfl rfl rfl rfl ⟨rfl, rfl⟩

set_option maxRecDepth 100000 in
theorem Prim_spec (t : Int) (v : List UInt8) (hv : v.length ≤ 1000000000) : Spec Tryz.prog 67 [.d (.int .i64 t), .d (.sl 1 (encB v))] [] (fun r h' => r = nAV (.mk t v []) ∧ h' = []) := by
  refine Spec_of_body hT Tryz.func67 rfl rfl rfl rfl ?_
  intro E hE
  have hl := encB_length v
  refine ww ?_
  refine AWk_op (append_full (es := []) hT rfl rfl rfl (.inr ⟨rfl, rfl⟩) rfl (by show (([] : List (List Dat)).length + (encB v).length) * (1 + 1) ≤ 140737488355328; simp; omega)) rfl ?_
  refine ww ?_
  exact ret_exact (r := nAV (.mk t v [])) rfl (AV.le.agg ⟨.refl _, .refl _, AV.le.dat, trivial⟩) rfl rfl rfl rfl ⟨rfl, rfl⟩

set_option maxHeartbeats 4000000 in
set_option maxRecDepth 100000 in
theorem Wrap_spec (n : Int) (hn : -9223372036854775808 ≤ n ∧ n ≤ 9223372036854775807) (l : List Node) (hl : l.length ≤ 1000000000) (hf : fitL l) (hsz : sizeL l ≤ 10000000) (hw : (wrL l).length ≤ 100000000) :
    Spec Tryz.prog 66 [.d (.int .i64 n), .d (.sl 3 (encNs l))] [] (fun r h' => r = .tup [.d (.sl 1 (encB (wrapG n l).1)), .d (.int .i64 (wrapG n l).2)] ∧ h' = []) := by
  have htag := Tag_spec n hn
  have hrg := tagR_range n
  unfold wrapG
  generalize tagR n = q at htag hrg
  obtain ⟨t, e⟩ := q
  simp only at htag hrg ⊢
  have henc := Encode_spec [.mk t [] l] (by simp) ⟨⟨by omega, by simp, hl, hf⟩, trivial⟩ (by simp only [sizeL, sizeN]; omega) (by have := wrL_one_le t [] l; simp only [List.length_nil] at this; omega)
  generalize encodeP [.mk t [] l] = en at henc
  obtain ⟨b, f⟩ := en
  refine Spec_of_body hT Tryz.func66 rfl rfl rfl rfl ?_
  intro E hE
  refine ww ?_
  refine AWk_op (callS0 rfl rfl htag rfl rfl rfl) rfl ?_
  refine ww ?_
  refine AW_condL rfl (fun h1 => ?_) (fun h1 => ?_)
  · have h1' : e ≠ 0 := by simpa using h1
    rw [if_pos h1']
    refine ww ?_
    exact ret_exact (r := .tup [.d (.sl 1 (encB [])), .d (.int .i64 e)]) rfl (AV.le.tup ⟨AV.le.nils, .refl _, trivial⟩) rfl rfl rfl rfl ⟨rfl, rfl⟩
  · have h1' : ¬ e ≠ 0 := by simpa using h1
    rw [if_neg h1']
    refine ww ?_
    refine AWk_op (callS0L rfl rfl henc rfl (by exact ⟨AV.le.dat, trivial⟩) rfl rfl) rfl ?_
    refine ww ?_
    exact ret_exact rfl (.refl _) rfl rfl rfl rfl ⟨rfl, rfl⟩
end Tdoc
/- The reader of objects: tags. -/
set_option linter.unusedVariables false
set_option linter.unusedSimpArgs false
namespace Tdoc
open Go Go.Proofs

def rdr (b : List UInt8) (st : Bool) (p c : Nat) : List AV := [.d (.sl 1 (encB b)), .d (.int .i64 (p : Int)), .d (.bool st), .d (.int .i64 (c : Int))]
theorem low_rdr (k : Nat) (b : List UInt8) (st : Bool) (p c : Nat) : lowL k (rdr b st p c) = true := rfl
theorem lowH_rdr (k : Nat) (b : List UInt8) (st : Bool) (p c : Nat) : lowH k [.row (rdr b st p c)] = true := rfl
def byteAt (b : List UInt8) (i : Nat) : Nat := (b.getD i 0).toNat
theorem byteAt_lt (b : List UInt8) (i : Nat) : byteAt b i < 256 := by unfold byteAt; exact UInt8.toNat_lt _
theorem encB_byte {b : List UInt8} {i : Nat} (h : i < b.length) : (encB b)[i]? = some [.int .u8 (byteAt b i : Int)] := by
  rw [encB_at h]; unfold byteAt; rw [List.getD_eq_getElem?_getD, List.getElem?_eq_getElem h]; rfl

/-- A further byte behind a number. -/
theorem joinB {a x : Nat} (ha : a < 4294967296) (hx : x < 256) :
    IntKind.i64.wrap ((BitVec.ofInt IntKind.i64.bits (IntKind.i64.wrap ((a : Int) * 2 ^ min (Int.toNat 8) IntKind.i64.bits)) ||| BitVec.ofInt IntKind.i64.bits (x : Int)).toNat : Int) = ((a * 256 + x : Nat) : Int) := by
  have h1 : IntKind.i64.wrap ((a : Int) * 2 ^ min (Int.toNat 8) IntKind.i64.bits) = ((a * 256 : Nat) : Int) := by
    show IntKind.i64.wrap ((a : Int) * 256) = _
    rw [wrap_id (by omega)]; omega
  rw [h1, or_nat (by omega) (by omega)]
  have := shl_or a x 8 (by omega)
  rw [show (2 : Nat) ^ 8 = 256 from rfl] at this
  rw [this]

def tagX (b : List UInt8) (e p : Nat) : Int × Int × Nat :=
  if e ≤ p then (0, 6, p)
  else if byteAt b p % 32 = 31 then
    if e ≤ p + 1 then (0, 6, p + 1)
    else if tagOk ((byteAt b p * 256 + byteAt b (p + 1) : Nat) : Int) then (((byteAt b p * 256 + byteAt b (p + 1) : Nat) : Int), 0, p + 2) else (0, 4, p + 2)
  else if tagOk (byteAt b p : Int) then ((byteAt b p : Int), 0, p + 1) else (0, 4, p + 1)

set_option maxHeartbeats 4000000 in
set_option maxRecDepth 100000 in
theorem tag_spec (b : List UInt8) (st : Bool) (e p c : Nat) (hb : b.length ≤ 1000000) (he : e ≤ b.length) (hp : p ≤ e) :
    Spec Tryz.prog 235 [.ptr 0 0, .d (.int .i64 (e : Int))] [.row (rdr b st p c)] (fun r h' => r = .tup [.d (.int .i64 (tagX b e p).1), .d (.int .i64 (tagX b e p).2.1)] ∧ h' = [.row (rdr b st (tagX b e p).2.2 c)]) := by
  have hx := byteAt_lt b p
  have hx1 := byteAt_lt b (p + 1)
  have hw0 : IntKind.i64.wrap (byteAt b p : Int) = (byteAt b p : Int) := wrap_id (by omega)
  have hw1 : IntKind.i64.wrap (byteAt b (p + 1) : Int) = (byteAt b (p + 1) : Int) := wrap_id (by omega)
  have hwr : IntKind.i64.wrap ((p : Int) + 1) = ((p + 1 : Nat) : Int) := by rw [wrap_id (by omega)]; simp
  have hwr2 : IntKind.i64.wrap (IntKind.i64.wrap ((p : Int) + 1) + 1) = ((p + 2 : Nat) : Int) := by rw [hwr, wrap_id (by omega)]; omega
  have hlong : Spec Tryz.prog 228 [.d (.int .i64 (IntKind.i64.wrap (byteAt b p : Int)))] [] (fun r h' => r = .d (.bool ((byteAt b p : Int) % 32 == 31)) ∧ h' = []) := by rw [hw0]; exact long_spec _ (by omega) (by omega)
  refine Spec_of_body hT Tryz.func235 rfl rfl rfl rfl ?_
  intro E hE
  unfold tagX
  refine ww ?_
  refine AW_condL rfl (fun h1 => ?_) (fun h1 => ?_)
  · have h1' : e ≤ p := by simpa using h1
    rw [if_pos h1']
    refine ww ?_
    exact ret_exact rfl (.refl _) rfl rfl rfl rfl ⟨rfl, rfl⟩
  · have h1' : ¬ e ≤ p := by simpa using h1
    have hel : (encB b)[((p : Int)).toNat]? = some [.int .u8 (byteAt b p : Int)] := encB_byte (by omega)
    rw [if_neg h1']
    refine ww ?_
    refine AWd_op (OpS_of_pure (indexAddr_ok hT rfl rfl rfl rfl (by omega) hel)) rfl rfl ?_
    refine ww ?_
    refine AWk_op (callS0 rfl rfl hlong rfl rfl rfl) rfl ?_
    refine ww ?_
    refine AW_condL rfl (fun h2 => ?_) (fun h2 => ?_)
    · have h2' : byteAt b p % 32 = 31 := by simp at h2; omega
      rw [if_pos h2']
      refine ww ?_
      refine AW_condL rfl (fun h3 => ?_) (fun h3 => ?_)
      · have h3' : e ≤ p + 1 := by rw [hwr] at h3; simp at h3; omega
        rw [if_pos h3']
        refine ww ?_
        exact ret_exact rfl (.refl _) rfl rfl rfl rfl ⟨rfl, by rw [hwr]; rfl⟩
      · have h3' : ¬ e ≤ p + 1 := by rw [hwr] at h3; simp at h3; omega
        have hel1 : (encB b)[(IntKind.i64.wrap ((p : Int) + 1)).toNat]? = some [.int .u8 (byteAt b (p + 1) : Int)] := by rw [hwr]; exact encB_byte (by omega)
        rw [if_neg h3']
        refine ww ?_
        refine AWd_op (OpS_of_pure (indexAddr_ok hT rfl rfl rfl rfl (by rw [hwr]; omega) hel1)) rfl rfl ?_
        refine ww ?_
        have hj : IntKind.i64.wrap ((BitVec.ofInt IntKind.i64.bits (IntKind.i64.wrap (IntKind.i64.wrap (byteAt b p : Int) * 2 ^ min (Int.toNat 8) IntKind.i64.bits)) ||| BitVec.ofInt IntKind.i64.bits (IntKind.i64.wrap (byteAt b (p + 1) : Int))).toNat : Int) = ((byteAt b p * 256 + byteAt b (p + 1) : Nat) : Int) := by rw [hw0, hw1]; exact joinB (by omega) hx1
        generalize hvv : IntKind.i64.wrap ((BitVec.ofInt IntKind.i64.bits (IntKind.i64.wrap (IntKind.i64.wrap (byteAt b p : Int) * 2 ^ min (Int.toNat 8) IntKind.i64.bits)) ||| BitVec.ofInt IntKind.i64.bits (IntKind.i64.wrap (byteAt b (p + 1) : Int))).toNat : Int) = vv at hj
        have hvalid : Spec Tryz.prog 159 [.d (.int .i64 vv)] [] (fun r h' => r = .d (.bool (tagOk vv)) ∧ h' = []) := Valid_spec vv (by omega)
        rw [← hj]
        generalize tagOk vv = ok at hvalid
        refine AWk_op (callS0 rfl rfl hvalid rfl rfl rfl) rfl ?_
        refine ww ?_
        refine AW_condL rfl (fun h4 => ?_) (fun h4 => ?_)
        · have h4' : ¬ ok = true := by simpa using h4
          rw [if_neg h4']
          refine ww ?_
          exact ret_exact rfl (.refl _) rfl rfl rfl rfl ⟨rfl, by rw [hwr2]; rfl⟩
        · have h4' : ok = true := by simpa using h4
          rw [if_pos h4']
          refine ww ?_
          exact ret_exact rfl (.refl _) rfl rfl rfl rfl ⟨rfl, by rw [hwr2]; rfl⟩
    · have h2' : ¬ byteAt b p % 32 = 31 := by simp at h2; omega
      have hvalid : Spec Tryz.prog 159 [.d (.int .i64 (IntKind.i64.wrap (byteAt b p : Int)))] [] (fun r h' => r = .d (.bool (tagOk (byteAt b p : Int))) ∧ h' = []) := by rw [hw0]; exact Valid_spec _ (by omega)
      rw [if_neg h2']
      generalize tagOk (byteAt b p : Int) = ok at hvalid
      refine ww ?_
      refine AWk_op (callS0 rfl rfl hvalid rfl rfl rfl) rfl ?_
      refine ww ?_
      refine AW_condL rfl (fun h4 => ?_) (fun h4 => ?_)
      · have h4' : ¬ ok = true := by simpa using h4
        rw [if_neg h4']
        refine ww ?_
        exact ret_exact rfl (.refl _) rfl rfl rfl rfl ⟨rfl, by rw [hwr]; rfl⟩
      · have h4' : ok = true := by simpa using h4
        rw [if_pos h4']
        refine ww ?_
        exact ret_exact (r := .tup [.d (.int .i64 (byteAt b p : Int)), .d (.int .i64 0)]) rfl (AV.le.tup ⟨AV.le.eq (congrArg (fun z => AV.d (.int .i64 z)) hw0), .refl _, trivial⟩) rfl rfl rfl rfl ⟨rfl, by rw [hwr]; rfl⟩
end Tdoc
/- The reader of objects: lengths. -/
set_option linter.unusedVariables false
set_option linter.unusedSimpArgs false
namespace Tdoc
open Go Go.Proofs

def numB (b : List UInt8) : Nat → Nat → Nat → Nat
  | _, 0, a => a
  | p, k + 1, a => numB b (p + 1) k (a * 256 + byteAt b p)
theorem numB_lt (b : List UInt8) : ∀ (k p a m : Nat), a < 256 ^ m → numB b p k a < 256 ^ (m + k)
  | 0, p, a, m, h => h
  | k + 1, p, a, m, h => by
    have hx := byteAt_lt b p
    have h1 : a * 256 + byteAt b p < 256 ^ (m + 1) := by rw [Nat.pow_succ]; omega
    have h2 := numB_lt b k (p + 1) _ (m + 1) h1
    rw [numB, show m + (k + 1) = m + 1 + k by omega]; exact h2
def lenX (b : List UInt8) (e : Nat) (op st : Bool) (p : Nat) : Int × Int × Nat :=
  if e ≤ p then (0, 6, p)
  else if byteAt b p < 128 then ((byteAt b p : Int), 0, p + 1)
  else if 132 < byteAt b p ∨ (byteAt b p = 128 ∧ op = false) then (0, 5, p + 1)
  else if byteAt b p = 128 then (-1, 0, p + 1)
  else if e < p + 1 + byteAt b p % 16 then (0, 6, p + 1)
  else if st = true ∧ (numB b (p + 1) (byteAt b p % 16) 0 < 128 ∨ numB b (p + 1) (byteAt b p % 16) 0 / 2 ^ (8 * (byteAt b p % 16 - 1)) = 0) then (0, 5, p + 1 + byteAt b p % 16)
  else ((numB b (p + 1) (byteAt b p % 16) 0 : Int), 0, p + 1 + byteAt b p % 16)

set_option maxHeartbeats 4000000 in
set_option maxRecDepth 100000 in
theorem len_spec (b : List UInt8) (op st : Bool) (e p c : Nat) (hb : b.length ≤ 1000000) (he : e ≤ b.length) (hp : p ≤ e) :
    Spec Tryz.prog 236 [.ptr 0 0, .d (.int .i64 (e : Int)), .d (.bool op)] [.row (rdr b st p c)] (fun r h' => r = .tup [.d (.int .i64 (lenX b e op st p).1), .d (.int .i64 (lenX b e op st p).2.1)] ∧ h' = [.row (rdr b st (lenX b e op st p).2.2 c)]) := by
  have hx := byteAt_lt b p
  have hw0 : IntKind.i64.wrap (byteAt b p : Int) = (byteAt b p : Int) := wrap_id (by omega)
  have hwr : IntKind.i64.wrap ((p : Int) + 1) = ((p + 1 : Nat) : Int) := by rw [wrap_id (by omega)]; simp
  have hand : IntKind.i64.wrap ((BitVec.ofInt IntKind.i64.bits (IntKind.i64.wrap (byteAt b p : Int)) &&& BitVec.ofInt IntKind.i64.bits (15 : Int)).toNat : Int) = ((byteAt b p % 16 : Nat) : Int) := by
    rw [hw0]
    have := and_nat (a := byteAt b p) (b := 15) (by omega) (by omega)
    rw [mask_nat (byteAt b p) 4] at this
    exact this
  refine Spec_of_body hT Tryz.func236 rfl rfl rfl rfl ?_
  intro E hE
  unfold lenX
  refine ww ?_
  refine AW_condL rfl (fun h1 => ?_) (fun h1 => ?_)
  · have h1' : e ≤ p := by simpa using h1
    rw [if_pos h1']
    refine ww ?_
    exact ret_exact rfl (.refl _) rfl rfl rfl rfl ⟨rfl, rfl⟩
  · have h1' : ¬ e ≤ p := by simpa using h1
    have hel : (encB b)[((p : Int)).toNat]? = some [.int .u8 (byteAt b p : Int)] := encB_byte (by omega)
    rw [if_neg h1']
    refine ww ?_
    refine AWd_op (OpS_of_pure (indexAddr_ok hT rfl rfl rfl rfl (by omega) hel)) rfl rfl ?_
    refine ww ?_
    refine AW_condL rfl (fun h2 => ?_) (fun h2 => ?_)
    · have h2' : byteAt b p < 128 := by rw [hw0] at h2; simp at h2; omega
      rw [if_pos h2']
      refine ww ?_
      exact ret_exact (r := .tup [.d (.int .i64 (byteAt b p : Int)), .d (.int .i64 0)]) rfl (AV.le.tup ⟨AV.le.eq (congrArg (fun z => AV.d (.int .i64 z)) hw0), .refl _, trivial⟩) rfl rfl rfl rfl ⟨rfl, by rw [hwr]; rfl⟩
    · have h2' : ¬ byteAt b p < 128 := by rw [hw0] at h2; simp at h2; omega
      rw [if_neg h2']
      refine ww ?_
      refine AW_condL rfl (fun h3 => ?_) (fun h3 => ?_)
      · have h3' : 132 < byteAt b p := by rw [hw0] at h3; simp at h3; omega
        rw [if_pos (.inl h3')]
        refine ww ?_
        refine AW_condL rfl (fun h4 => ?_) (fun h4 => ?_)
        · refine ww ?_
          exact ret_exact rfl (.refl _) rfl rfl rfl rfl ⟨rfl, by rw [hwr]; rfl⟩
        · exact absurd (h3.symm.trans h4) (by simp)
      · have h3' : ¬ 132 < byteAt b p := by rw [hw0] at h3; simp at h3; omega
        refine ww ?_
        refine AW_condL rfl (fun h4 => ?_) (fun h4 => ?_)
        · have h4' : byteAt b p = 128 ∧ op = false := by rw [hw0] at h4; simp at h4; exact ⟨by omega, h4.2⟩
          rw [if_pos (.inr h4')]
          refine ww ?_
          exact ret_exact rfl (.refl _) rfl rfl rfl rfl ⟨rfl, by rw [hwr]; rfl⟩
        · have h4' : ¬ (byteAt b p = 128 ∧ op = false) := by rintro ⟨ha, hb'⟩; rw [hw0, ha, hb'] at h4; simp at h4
          rw [if_neg (fun hh => hh.elim h3' h4')]
          refine ww ?_
          refine AW_condL rfl (fun h5 => ?_) (fun h5 => ?_)
          · have h5' : byteAt b p = 128 := by rw [hw0] at h5; simp at h5; omega
            rw [if_pos h5']
            refine ww ?_
            exact ret_exact rfl (.refl _) rfl rfl rfl rfl ⟨rfl, by rw [hwr]; rfl⟩
          · have h5' : ¬ byteAt b p = 128 := by rw [hw0] at h5; simp at h5; omega
            rw [if_neg h5']
            have hk1 : 1 ≤ byteAt b p % 16 ∧ byteAt b p % 16 ≤ 4 := by omega
            generalize hks : byteAt b p % 16 = ks at hand hk1
            refine ww ?_
            rw [hand]
            have hws : IntKind.i64.wrap ((e : Int) - IntKind.i64.wrap ((p : Int) + 1)) = (e : Int) - ((p + 1 : Nat) : Int) := by rw [hwr, wrap_id (by omega)]
            refine AW_condL rfl (fun h6 => ?_) (fun h6 => ?_)
            · have h6' : e < p + 1 + ks := by rw [hws] at h6; simp at h6; omega
              rw [if_pos h6']
              refine ww ?_
              exact ret_exact rfl (.refl _) rfl rfl rfl rfl ⟨rfl, by rw [hwr]; rfl⟩
            · have h6' : ¬ e < p + 1 + ks := by rw [hws] at h6; simp at h6; omega
              rw [if_neg h6']
              have hfl := numB_lt b ks (p + 1) 0 0 (by simp)
              have hpw : 256 ^ (0 + ks) ≤ 256 ^ 4 := Nat.pow_le_pow_right (by omega) (by omega)
              generalize hfin : numB b (p + 1) ks 0 = fin at hfl
              refine ww ?_
              refine AW_loopL (ι := Nat × Nat) (fun x => [(0, .ptr 0 0), (9, .d (.int .i64 (ks : Int))), (10, .d (.int .i64 (x.2 : Int))), (61, .d (.int .i64 (ks : Int))), (62, .d (.int .i64 (x.1 : Int)))]) (fun x => [.row (rdr b st (p + 1 + x.1) c)])
                (fun x => x.1 ≤ ks ∧ numB b (p + 1 + x.1) (ks - x.1) x.2 = fin ∧ x.2 < 256 ^ x.1) (fun x => ks - x.1) (0, 0) ⟨by omega, hfin, by simp⟩ ⟨.refl _, .refl _, .refl _, .refl _, .refl _, trivial⟩ ⟨⟨.refl _, AV.le.eq (by rw [hwr]; rfl), .refl _, .refl _, trivial⟩, trivial⟩ ?_
              rintro ⟨i, acc⟩ ⟨hi, hg, hac⟩
              simp only at hi hg hac ⊢
              have hwi : IntKind.i64.wrap ((i : Int) + 1) = ((i + 1 : Nat) : Int) := by rw [wrap_id (by omega)]; simp
              refine ww ?_
              refine AW_condL rfl (fun h7 => ?_) (fun h7 => ?_)
              · have h7' : i < ks := by simpa using h7
                have hxi := byteAt_lt b (p + 1 + i)
                have hwp : IntKind.i64.wrap (((p + 1 + i : Nat) : Int) + 1) = ((p + 1 + (i + 1) : Nat) : Int) := by rw [wrap_id (by omega)]; omega
                have hwx : IntKind.i64.wrap (byteAt b (p + 1 + i) : Int) = (byteAt b (p + 1 + i) : Int) := wrap_id (by omega)
                have hel1 : (encB b)[((p + 1 + i : Nat) : Int).toNat]? = some [.int .u8 (byteAt b (p + 1 + i) : Int)] := by rw [Int.toNat_natCast]; exact encB_byte (by omega)
                have hp3 : 256 ^ i ≤ 256 ^ 3 := Nat.pow_le_pow_right (by omega) (by omega)
                have hj : IntKind.i64.wrap ((BitVec.ofInt IntKind.i64.bits (IntKind.i64.wrap ((acc : Int) * 2 ^ min (Int.toNat 8) IntKind.i64.bits)) ||| BitVec.ofInt IntKind.i64.bits (IntKind.i64.wrap (byteAt b (p + 1 + i) : Int))).toNat : Int) = ((acc * 256 + byteAt b (p + 1 + i) : Nat) : Int) := by rw [hwx]; exact joinB (by omega) hxi
                rw [show ks - i = (ks - (i + 1)) + 1 by omega, numB] at hg
                refine ww ?_
                refine AWd_op (OpS_of_pure (indexAddr_ok hT rfl rfl rfl rfl (by omega) hel1)) rfl rfl ?_
                refine ww ?_
                exact ⟨(i + 1, acc * 256 + byteAt b (p + 1 + i)), ⟨by simp only; omega, hg, by simp only; rw [Nat.pow_succ]; omega⟩, by simp only; omega, ⟨.refl _, .refl _, AV.le.eq (congrArg (fun z => AV.d (.int .i64 z)) hj), .refl _, AV.le.eq (congrArg (fun z => AV.d (.int .i64 z)) hwi), trivial⟩, ⟨⟨.refl _, AV.le.eq (congrArg (fun z => AV.d (.int .i64 z)) hwp), .refl _, .refl _, trivial⟩, trivial⟩⟩
              · have h7' : i = ks := by simp at h7; omega
                subst h7'
                rw [Nat.sub_self, numB] at hg
                subst hg
                refine ww ?_
                have hws8 : IntKind.i64.wrap (8 * IntKind.i64.wrap ((i : Int) - 1)) = ((8 * (i - 1) : Nat) : Int) := by rw [wrap_id (n := (i : Int) - 1) (by omega), wrap_id (by omega)]; omega
                have hsh : Int.fdiv (acc : Int) (2 ^ min (IntKind.i64.wrap (8 * IntKind.i64.wrap ((i : Int) - 1))).toNat IntKind.i64.bits) = ((acc / 2 ^ (8 * (i - 1)) : Nat) : Int) := by
                  rw [hws8, Int.toNat_natCast, show min (8 * (i - 1)) IntKind.i64.bits = 8 * (i - 1) from Nat.min_eq_left (by show _ ≤ 64; omega)]
                  exact shr_nat acc _
                refine AWk_gstep hT rfl rfl rfl rfl (fun hg => ⟨⟨hg, hg, True.intro⟩, by rw [hws8]; omega⟩) ?_
                refine ww ?_
                refine AW_condL rfl (fun h8 => ?_) (fun h8 => ?_)
                · have h8' : st = true ∧ (acc < 128 ∨ acc / 2 ^ (8 * (i - 1)) = 0) := by
                    rw [hsh] at h8
                    simp only [Bool.and_eq_true, Bool.or_eq_true, decide_eq_true_eq, beq_iff_eq] at h8
                    exact ⟨h8.1, h8.2.imp (fun h => by omega) (fun h => by omega)⟩
                  rw [if_pos h8']
                  refine ww ?_
                  exact ret_exact rfl (.refl _) rfl rfl rfl rfl ⟨rfl, rfl⟩
                · have h8' : ¬ (st = true ∧ (acc < 128 ∨ acc / 2 ^ (8 * (i - 1)) = 0)) := by
                    rintro ⟨g1, g2⟩
                    have : (st && (decide ((acc : Int) < 128) || (Int.fdiv (acc : Int) (2 ^ min (IntKind.i64.wrap (8 * IntKind.i64.wrap ((i : Int) - 1))).toNat IntKind.i64.bits) == 0))) = true := by
                      rw [hsh]
                      simp only [Bool.and_eq_true, Bool.or_eq_true, decide_eq_true_eq, beq_iff_eq]
                      exact ⟨g1, g2.imp (fun h => by omega) (fun h => by omega)⟩
                    exact absurd (this.symm.trans h8) (by simp)
                  rw [if_neg h8']
                  refine ww ?_
                  exact ret_exact rfl (.refl _) rfl rfl rfl rfl ⟨rfl, rfl⟩
end Tdoc
/- The reader of objects: lists of objects, up to an end or an end mark. -/
set_option linter.unusedVariables false
set_option linter.unusedSimpArgs false
namespace Tdoc
open Go Go.Proofs

abbrev Rd := Nat → Nat → Node × Int × Nat × Nat
def nCells : Node → List AV
  | .mk t v k => [.d (.int .i64 t), .d (.sl 1 (encB v)), .d (.sl 3 (encNs k))]
def loopX (f : Rd) (e : Nat) : Nat → Nat → Nat → List Node → List Node × Int × Nat × Nat
  | 0, p, c, out => (out, 0, p, c)
  | m + 1, p, c, out => if p < e then (if (f p c).2.1 ≠ 0 then ([], (f p c).2) else loopX f e m (f p c).2.2.1 (f p c).2.2.2 (out ++ [(f p c).1])) else (out, 0, p, c)
def kidsX (b : List UInt8) (f : Rd) (e : Nat) : Nat → Nat → Nat → List Node → List Node × Int × Nat × Nat
  | 0, p, c, out => ([], 6, p, c)
  | m + 1, p, c, out => if e ≤ p ∨ (byteAt b p = 0 ∧ e ≤ p + 1) then ([], 6, p, c) else if byteAt b p = 0 ∧ byteAt b (p + 1) = 0 then (out, 0, p + 2, c)
    else (if (f p c).2.1 ≠ 0 then ([], (f p c).2) else kidsX b f e m (f p c).2.2.1 (f p c).2.2.2 (out ++ [(f p c).1]))

/-- What is known of a reading of one object that ends at most at e. -/
def RdOk (f : Rd) (e : Nat) : Prop := ∀ p c, p ≤ e → c ≤ 256 → p ≤ (f p c).2.2.1 ∧ (f p c).2.2.1 ≤ e ∧ (f p c).2.2.2 ≤ 257 ∧ ((f p c).2.1 = 0 → p < (f p c).2.2.1 ∧ (f p c).2.2.2 ≤ 256)

theorem loopX_ok {f : Rd} {e : Nat} (hf : RdOk f e) : ∀ (m p c : Nat) (out : List Node), p ≤ e → c ≤ 256 → p ≤ (loopX f e m p c out).2.2.1 ∧ (loopX f e m p c out).2.2.1 ≤ e ∧ (loopX f e m p c out).2.2.2 ≤ 257 ∧ ((loopX f e m p c out).2.1 = 0 → (loopX f e m p c out).2.2.2 ≤ 256)
  | 0, p, c, out, hp, hc => ⟨Nat.le_refl _, hp, by show c ≤ 257; omega, fun _ => hc⟩
  | m + 1, p, c, out, hp, hc => by
    have h := hf p c hp hc
    rw [loopX]
    split
    · split
      · rename_i h2
        exact ⟨h.1, h.2.1, h.2.2.1, fun h0 => absurd h0 h2⟩
      · rename_i h2
        have h3 := h.2.2.2 (by simpa using h2)
        have := loopX_ok hf m _ (f p c).2.2.2 (out ++ [(f p c).1]) h.2.1 h3.2
        exact ⟨by omega, this.2⟩
    · exact ⟨Nat.le_refl _, hp, by show c ≤ 257; omega, fun _ => hc⟩
theorem kidsX_ok {b : List UInt8} {f : Rd} {e : Nat} (hf : RdOk f e) : ∀ (m p c : Nat) (out : List Node), p ≤ e → c ≤ 256 → p ≤ (kidsX b f e m p c out).2.2.1 ∧ (kidsX b f e m p c out).2.2.1 ≤ e ∧ (kidsX b f e m p c out).2.2.2 ≤ 257 ∧ ((kidsX b f e m p c out).2.1 = 0 → (kidsX b f e m p c out).2.2.2 ≤ 256)
  | 0, p, c, out, hp, hc => ⟨Nat.le_refl _, hp, by show c ≤ 257; omega, fun _ => hc⟩
  | m + 1, p, c, out, hp, hc => by
    have h := hf p c hp hc
    rw [kidsX]
    split
    · exact ⟨Nat.le_refl _, hp, by show c ≤ 257; omega, fun _ => hc⟩
    · rename_i h0
      split
      · exact ⟨by show p ≤ p + 2; omega, by show p + 2 ≤ e; omega, by show c ≤ 257; omega, fun _ => hc⟩
      · split
        · rename_i h2
          exact ⟨h.1, h.2.1, h.2.2.1, fun h0 => absurd h0 h2⟩
        · rename_i h2
          have h3 := h.2.2.2 (by simpa using h2)
          have := kidsX_ok (b := b) hf m _ (f p c).2.2.2 (out ++ [(f p c).1]) h.2.1 h3.2
          exact ⟨by omega, this.2⟩

set_option maxRecDepth 100000 in
theorem CloneB_spec (es : List (List Dat)) (hl : es.length ≤ 2000000) :
    Spec Tryz.prog 200 [.d (.sl 1 es)] [] (fun r h' => r = .d (.sl 1 es) ∧ h' = []) := by
  refine Spec_of_body hT Tryz.func200 rfl rfl rfl rfl ?_
  intro E hE
  refine ww ?_
  refine AWk_opR (eqNil_ok hT (fun _ => rfl) rfl rfl rfl) rfl ?_
  rintro v h' ⟨rfl, b, rfl, hb⟩
  refine ww ?_
  refine AW_condL rfl (fun h1 => ?_) (fun h1 => ?_)
  · obtain rfl := hb h1
    refine ww ?_
    exact ret_exact rfl AV.le.nils rfl rfl rfl rfl ⟨rfl, rfl⟩
  · refine ww ?_
    refine AWk_op (append_full (es := []) hT rfl rfl rfl (.inl rfl) rfl (by show (([] : List (List Dat)).length + es.length) * (1 + 1) ≤ 140737488355328; simp; omega)) rfl ?_
    refine ww ?_
    exact ret_exact rfl (.refl _) rfl rfl rfl rfl ⟨rfl, rfl⟩

/-- The contract of one object's reading. -/
def ObjS (b : List UInt8) (st : Bool) (f : Rd) (e d : Nat) : Prop := ∀ p c, p ≤ e → c ≤ 256 → Spec Tryz.prog 180 [.ptr 0 0, .d (.int .i64 (e : Int)), .d (.int .i64 (d : Int))] [.row (rdr b st p c)]
  (fun r h' => r = .tup [.agg (nCells (f p c).1), .d (.int .i64 (f p c).2.1)] ∧ h' = [.row (rdr b st (f p c).2.2.1 (f p c).2.2.2)])

set_option maxHeartbeats 8000000 in
set_option maxRecDepth 100000 in
theorem objects_spec (b : List UInt8) (st : Bool) (f : Rd) (e d : Nat) (hb : b.length ≤ 1000000) (he : e ≤ b.length) (hd : d ≤ 100) (hf : RdOk f e) (H : ObjS b st f e d) (p c m : Nat) (hp : p ≤ e) (hc : c ≤ 256) (hm : e < p + m) :
    Spec Tryz.prog 116 [.ptr 0 0, .d (.int .i64 (e : Int)), .d (.int .i64 (d : Int))] [.row (rdr b st p c)]
      (fun r h' => r = .tup [.d (.sl 3 (encNs (loopX f e m p c []).1)), .d (.int .i64 (loopX f e m p c []).2.1)] ∧ h' = [.row (rdr b st (loopX f e m p c []).2.2.1 (loopX f e m p c []).2.2.2)]) := by
  refine Spec_of_body hT Tryz.func116 rfl rfl rfl rfl ?_
  intro E hE
  generalize hfin : loopX f e m p c [] = fin
  refine AW_room ?_
  refine AW_seq (AW_region ?_)
  refine wws ?_
  refine AW_seq (AW_region ?_)
  refine wws ?_
  refine AW_acquireAt 8 3 1 (es := []) (.inr ⟨rfl, rfl⟩) rfl ?_
  refine ww ?_
  refine AW_loopC (ι := Nat × Nat × Nat × List Node) (fun x => [(0, .ptr 0 0), (1, .d (.int .i64 (e : Int))), (2, .d (.int .i64 (d : Int))), (8, .sl 3 (encNs x.2.2.2) (.right 1))]) (fun x => [.row (rdr b st x.1 x.2.1), .right 3 (encNs x.2.2.2).length])
    (fun x => x.1 ≤ e ∧ x.2.1 ≤ 256 ∧ e < x.1 + x.2.2.1 ∧ x.2.2.2.length ≤ x.1 ∧ loopX f e x.2.2.1 x.1 x.2.1 x.2.2.2 = fin) (fun x => e - x.1) (p, c, m, []) ⟨hp, hc, hm, by simp, hfin⟩ ⟨.refl _, .refl _, .refl _, .refl _, trivial⟩ ⟨.refl _, .refl _, trivial⟩ ?_
  rintro ⟨p, c, m, out⟩ ⟨hp, hc, hm, ho, hg⟩
  simp only at hp hc hm ho hg ⊢
  have hol := encNs_length out
  refine ww ?_
  refine AW_condL rfl (fun h1 => ?_) (fun h1 => ?_)
  · have h1' : p < e := by simpa using h1
    obtain ⟨m, rfl⟩ : ∃ m', m = m' + 1 := ⟨m - 1, by omega⟩
    have hob := H p c hp hc
    have hok := hf p c hp hc
    rw [loopX, if_pos h1'] at hg
    generalize f p c = q at hob hok hg
    obtain ⟨⟨t, v, k⟩, er, p', c'⟩ := q
    simp only [nCells] at hob hok hg
    refine ww ?_
    refine AWk_op (callS1 rfl rfl hob [0] (by decide) rfl rfl rfl rfl rfl rfl rfl) rfl ?_
    refine ww ?_
    refine AW_condL rfl (fun h2 => ?_) (fun h2 => ?_)
    · have h2' : er ≠ 0 := by simpa using h2
      rw [if_pos h2'] at hg
      subst hg
      refine ww ?_
      exact ret_exact (r := .tup [.d (.sl 3 (encNs [])), .d (.int .i64 er)]) rfl (AV.le.tup ⟨AV.le.nils, .refl _, trivial⟩) rfl rfl rfl rfl ⟨rfl, rfl⟩
    · have h2' : ¬ er ≠ 0 := by simpa using h2
      have hok2 := hok.2.2.2 (by simpa using h2)
      rw [if_neg h2'] at hg
      refine ww ?_
      refine AWk_op (append_rightL (i := 1) hT rfl rfl rfl rfl rfl rfl (by show ((encNs out).length + 1) * (56 + 1) ≤ _; omega)) rfl ?_
      refine ww ?_
      have hres : encNs (out ++ [.mk t v k]) = encNs out ++ [encN (.mk t v k)] := by rw [encNs_append]; rfl
      exact ⟨(p', c', m, out ++ [.mk t v k]), [_], ⟨hok.2.1, hok2.2, by simp only; omega, by simp only [List.length_append, List.length_singleton]; omega, hg⟩, by simp only; omega, ⟨.refl _, .refl _, .refl _, AV.le.eq (by rw [hres]; rfl), trivial⟩, ⟨ObLe.refl _, ⟨rfl, by rw [hres]; rfl⟩, ObLe.refl _, trivial⟩, Env.below_mono hE (by simp), rfl, rfl⟩
  · have h1' : ¬ p < e := by simpa using h1
    have hgf : (out, (0 : Int), p, c) = fin := by
      rw [← hg]
      cases m with
      | zero => rfl
      | succ m => rw [loopX, if_neg h1']
    subst hgf
    refine ww ?_
    exact ret_exact (r := .tup [.d (.sl 3 (encNs out)), .d (.int .i64 0)]) rfl (AV.le.tup ⟨AV.le.dat, .refl _, trivial⟩) rfl rfl rfl rfl ⟨rfl, rfl⟩
end Tdoc
/- The reader of objects: objects up to an end mark. -/
set_option linter.unusedVariables false
set_option linter.unusedSimpArgs false
namespace Tdoc
open Go Go.Proofs

set_option maxHeartbeats 8000000 in
set_option maxRecDepth 100000 in
theorem kids_spec (b : List UInt8) (st : Bool) (f : Rd) (e d : Nat) (hb : b.length ≤ 1000000) (he : e ≤ b.length) (hd : d ≤ 100) (hf : RdOk f e) (H : ObjS b st f e d) (p c m : Nat) (hp : p ≤ e) (hc : c ≤ 256) (hm : e < p + m) :
    Spec Tryz.prog 237 [.ptr 0 0, .d (.int .i64 (e : Int)), .d (.int .i64 (d : Int))] [.row (rdr b st p c)]
      (fun r h' => r = .tup [.d (.sl 3 (encNs (kidsX b f e m p c []).1)), .d (.int .i64 (kidsX b f e m p c []).2.1)] ∧ h' = [.row (rdr b st (kidsX b f e m p c []).2.2.1 (kidsX b f e m p c []).2.2.2)]) := by
  refine Spec_of_body hT Tryz.func237 rfl rfl rfl rfl ?_
  intro E hE
  generalize hfin : kidsX b f e m p c [] = fin
  refine AW_room ?_
  refine AW_seq (AW_region ?_)
  refine wws ?_
  refine AW_seq (AW_region ?_)
  refine wws ?_
  refine AW_acquireAt 8 3 1 (es := []) (.inr ⟨rfl, rfl⟩) rfl ?_
  refine AW_block ?_
  refine AW_loopC (ι := Nat × Nat × Nat × List Node) (fun x => [(0, .ptr 0 0), (1, .d (.int .i64 (e : Int))), (2, .d (.int .i64 (d : Int))), (8, .sl 3 (encNs x.2.2.2) (.right 1))]) (fun x => [.row (rdr b st x.1 x.2.1), .right 3 (encNs x.2.2.2).length])
    (fun x => x.1 ≤ e ∧ x.2.1 ≤ 256 ∧ e < x.1 + x.2.2.1 ∧ x.2.2.2.length ≤ x.1 ∧ kidsX b f e x.2.2.1 x.1 x.2.1 x.2.2.2 = fin) (fun x => e - x.1) (p, c, m, []) ⟨hp, hc, hm, by simp, hfin⟩ ⟨.refl _, .refl _, .refl _, .refl _, trivial⟩ ⟨.refl _, .refl _, trivial⟩ ?_
  rintro ⟨p, c, m, out⟩ ⟨hp, hc, hm, ho, hg⟩
  simp only at hp hc hm ho hg ⊢
  have hol := encNs_length out
  obtain ⟨m, rfl⟩ : ∃ m', m = m' + 1 := ⟨m - 1, by omega⟩
  rw [kidsX] at hg
  have hwr : IntKind.i64.wrap ((p : Int) + 1) = ((p + 1 : Nat) : Int) := by rw [wrap_id (by omega)]; simp
  have hwr2 : IntKind.i64.wrap ((p : Int) + 2) = ((p + 2 : Nat) : Int) := by rw [wrap_id (by omega)]; simp
  have hx := byteAt_lt b p
  have hx1 := byteAt_lt b (p + 1)
  refine ww ?_
  refine AWd_gop rfl rfl rfl rfl (fun hg => ⟨⟨hg, hg, True.intro⟩, OpS_of_pure (indexAddr_ok hT rfl rfl rfl rfl (by omega) (show (encB b)[((p : Int)).toNat]? = some [.int .u8 (byteAt b p : Int)] from encB_byte (by simp [gval] at hg; omega)))⟩) ?_
  refine ww ?_
  refine AW_condL rfl (fun h1 => ?_) (fun h1 => ?_)
  · have h1' : e ≤ p ∨ (byteAt b p = 0 ∧ e ≤ p + 1) := by
      rw [hwr] at h1
      simp only [Bool.or_eq_true, Bool.and_eq_true, decide_eq_true_eq, beq_iff_eq] at h1
      omega
    rw [if_pos h1'] at hg
    subst hg
    refine ww ?_
    exact ret_exact (r := .tup [.d (.sl 3 (encNs [])), .d (.int .i64 6)]) rfl (AV.le.tup ⟨AV.le.nils, .refl _, trivial⟩) rfl rfl rfl rfl ⟨rfl, rfl⟩
  · have h1' : ¬ (e ≤ p ∨ (byteAt b p = 0 ∧ e ≤ p + 1)) := by
      intro hh
      have : (decide ((p : Int) ≥ (e : Int)) || (byteAt b p : Int) == 0 && decide (IntKind.i64.wrap ((p : Int) + 1) ≥ (e : Int))) = true := by
        rw [hwr]
        simp only [Bool.or_eq_true, Bool.and_eq_true, decide_eq_true_eq, beq_iff_eq]
        omega
      exact absurd (this.symm.trans h1) (by simp)
    rw [if_neg h1'] at hg
    have hel : (encB b)[((p : Int)).toNat]? = some [.int .u8 (byteAt b p : Int)] := encB_byte (by omega)
    refine ww ?_
    refine AWd_op (OpS_of_pure (indexAddr_ok hT rfl rfl rfl rfl (by omega) hel)) rfl rfl ?_
    refine ww ?_
    refine AWd_gop rfl rfl rfl rfl (fun hg => ⟨⟨hg, hg, True.intro⟩, OpS_of_pure (indexAddr_ok hT rfl rfl rfl rfl (by rw [hwr]; omega) (show (encB b)[(IntKind.i64.wrap ((p : Int) + 1)).toNat]? = some [.int .u8 (byteAt b (p + 1) : Int)] from by rw [hwr]; exact encB_byte (by simp [gval] at hg; omega)))⟩) ?_
    refine ww ?_
    refine AW_condL rfl (fun h2 => ?_) (fun h2 => ?_)
    · have h2' : byteAt b p = 0 ∧ byteAt b (p + 1) = 0 := by
        simp only [Bool.and_eq_true, beq_iff_eq] at h2
        omega
      rw [if_pos h2'] at hg
      subst hg
      refine ww ?_
      exact ret_exact (r := .tup [.d (.sl 3 (encNs out)), .d (.int .i64 0)]) rfl (AV.le.tup ⟨AV.le.dat, .refl _, trivial⟩) rfl rfl rfl rfl ⟨rfl, by rw [hwr2]; rfl⟩
    · have h2' : ¬ (byteAt b p = 0 ∧ byteAt b (p + 1) = 0) := by
        intro hh
        have : ((byteAt b p : Int) == 0 && (byteAt b (p + 1) : Int) == 0) = true := by
          simp only [Bool.and_eq_true, beq_iff_eq]
          omega
        exact absurd (this.symm.trans h2) (by simp)
      rw [if_neg h2'] at hg
      have hob := H p c hp hc
      have hok := hf p c hp hc
      generalize f p c = q at hob hok hg
      obtain ⟨⟨t, v, k⟩, er, p', c'⟩ := q
      simp only [nCells] at hob hok hg
      refine ww ?_
      refine AWk_op (callS1 rfl rfl hob [0] (by decide) rfl rfl rfl rfl rfl rfl rfl) rfl ?_
      refine ww ?_
      refine AW_condL rfl (fun h3 => ?_) (fun h3 => ?_)
      · have h3' : er ≠ 0 := by simpa using h3
        rw [if_pos h3'] at hg
        subst hg
        refine ww ?_
        exact ret_exact (r := .tup [.d (.sl 3 (encNs [])), .d (.int .i64 er)]) rfl (AV.le.tup ⟨AV.le.nils, .refl _, trivial⟩) rfl rfl rfl rfl ⟨rfl, rfl⟩
      · have h3' : ¬ er ≠ 0 := by simpa using h3
        have hok2 := hok.2.2.2 (by simpa using h3)
        rw [if_neg h3'] at hg
        refine ww ?_
        refine AWk_op (append_rightL (i := 1) hT rfl rfl rfl rfl rfl rfl (by show ((encNs out).length + 1) * (56 + 1) ≤ _; omega)) rfl ?_
        refine ww ?_
        have hres : encNs (out ++ [.mk t v k]) = encNs out ++ [encN (.mk t v k)] := by rw [encNs_append]; rfl
        exact ⟨(p', c', m, out ++ [.mk t v k]), [_], ⟨hok.2.1, hok2.2, by simp only; omega, by simp only [List.length_append, List.length_singleton]; omega, hg⟩, by simp only; omega, ⟨.refl _, .refl _, .refl _, AV.le.eq (by rw [hres]; rfl), trivial⟩, ⟨ObLe.refl _, ⟨rfl, by rw [hres]; rfl⟩, ObLe.refl _, trivial⟩, Env.below_mono hE (by simp), rfl, rfl⟩
end Tdoc
/- The reader of objects: one object; Parse. -/
set_option linter.unusedVariables false
set_option linter.unusedSimpArgs false
namespace Tdoc
open Go Go.Proofs

theorem tagX_ok (b : List UInt8) {e p : Nat} (hp : p ≤ e) : p ≤ (tagX b e p).2.2 ∧ (tagX b e p).2.2 ≤ e ∧ ((tagX b e p).2.1 = 0 → p < (tagX b e p).2.2) ∧ 0 ≤ (tagX b e p).1 ∧ (tagX b e p).1 < 65536 := by
  have hx := byteAt_lt b p
  have hx1 := byteAt_lt b (p + 1)
  unfold tagX
  split
  · exact ⟨Nat.le_refl _, hp, fun h => by simp at h, by simp, by simp⟩
  · split
    · split
      · exact ⟨by show p ≤ p + 1; omega, by show p + 1 ≤ e; omega, fun h => by simp at h, by simp, by simp⟩
      · split
        · exact ⟨by show p ≤ p + 2; omega, by show p + 2 ≤ e; omega, fun h => by show p < p + 2; omega, by show (0 : Int) ≤ ((_ : Nat) : Int); omega, by show ((_ : Nat) : Int) < 65536; omega⟩
        · exact ⟨by show p ≤ p + 2; omega, by show p + 2 ≤ e; omega, fun h => by simp at h, by simp, by simp⟩
    · split
      · exact ⟨by show p ≤ p + 1; omega, by show p + 1 ≤ e; omega, fun h => by show p < p + 1; omega, by show (0 : Int) ≤ ((_ : Nat) : Int); omega, by show ((_ : Nat) : Int) < 65536; omega⟩
      · exact ⟨by show p ≤ p + 1; omega, by show p + 1 ≤ e; omega, fun h => by simp at h, by simp, by simp⟩

theorem lenX_ok (b : List UInt8) {e p : Nat} (op st : Bool) (hp : p ≤ e) : p ≤ (lenX b e op st p).2.2 ∧ (lenX b e op st p).2.2 ≤ e ∧ ((lenX b e op st p).2.1 = 0 → p < (lenX b e op st p).2.2) ∧ -1 ≤ (lenX b e op st p).1 ∧ (lenX b e op st p).1 < 4294967296 := by
  have hx := byteAt_lt b p
  unfold lenX
  split
  · exact ⟨Nat.le_refl _, hp, fun h => by simp at h, by simp, by simp⟩
  · split
    · exact ⟨by show p ≤ p + 1; omega, by show p + 1 ≤ e; omega, fun h => by show p < p + 1; omega, by show (-1 : Int) ≤ ((_ : Nat) : Int); omega, by show ((_ : Nat) : Int) < _; omega⟩
    · split
      · exact ⟨by show p ≤ p + 1; omega, by show p + 1 ≤ e; omega, fun h => by simp at h, by simp, by simp⟩
      · split
        · exact ⟨by show p ≤ p + 1; omega, by show p + 1 ≤ e; omega, fun h => by show p < p + 1; omega, by simp, by simp⟩
        · split
          · exact ⟨by show p ≤ p + 1; omega, by show p + 1 ≤ e; omega, fun h => by simp at h, by simp, by simp⟩
          · have hk : byteAt b p % 16 ≤ 4 := by omega
            split
            · exact ⟨by show p ≤ p + 1 + _; omega, by show p + 1 + _ ≤ e; omega, fun h => by simp at h, by simp, by simp⟩
            · have h1 := numB_lt b (byteAt b p % 16) (p + 1) 0 0 (by simp)
              have h2 : 256 ^ (0 + byteAt b p % 16) ≤ 256 ^ 4 := Nat.pow_le_pow_right (by omega) (by omega)
              exact ⟨by show p ≤ p + 1 + _; omega, by show p + 1 + _ ≤ e; omega, fun h => by show p < p + 1 + _; omega, by show (-1 : Int) ≤ ((_ : Nat) : Int); omega, by show ((_ : Nat) : Int) < _; omega⟩

def objY (b : List UInt8) (g : Nat → Rd) (e d : Nat) (t : Int) (n : Int × Int × Nat) (c : Nat) : Node × Int × Nat × Nat :=
  if n.2.1 ≠ 0 then (.mk 0 [] [], n.2.1, n.2.2, c)
  else if d > 8 then (.mk 0 [] [], 7, n.2.2, c + 1)
  else if c + 1 > 256 then (.mk 0 [] [], 2, n.2.2, c + 1)
  else if n.1 > (e : Int) - (n.2.2 : Int) then (.mk 0 [] [], 6, n.2.2, c + 1)
  else if n.1 = -1 then (.mk t [] (kidsX b (g e) e (e + 1) n.2.2 (c + 1) []).1, (kidsX b (g e) e (e + 1) n.2.2 (c + 1) []).2)
  else if tagCons t = true then (.mk t [] (loopX (g (n.2.2 + n.1.toNat)) (n.2.2 + n.1.toNat) (e + 1) n.2.2 (c + 1) []).1, (loopX (g (n.2.2 + n.1.toNat)) (n.2.2 + n.1.toNat) (e + 1) n.2.2 (c + 1) []).2)
  else (.mk t ((b.drop n.2.2).take n.1.toNat) [], 0, n.2.2 + n.1.toNat, c + 1)
def objX (b : List UInt8) (st : Bool) : Nat → Nat → Nat → Nat → Nat → Node × Int × Nat × Nat
  | 0, e, d, p, c => (.mk 0 [] [], 7, p, c)
  | k + 1, e, d, p, c =>
    if (tagX b e p).2.1 ≠ 0 then (.mk 0 [] [], (tagX b e p).2.1, (tagX b e p).2.2, c)
    else objY b (fun e' => objX b st k e' (d + 1)) e d (tagX b e p).1 (lenX b e (tagCons (tagX b e p).1 && !st) st (tagX b e p).2.2) c

theorem objX_ok (b : List UInt8) (st : Bool) : ∀ (k e d : Nat), RdOk (objX b st k e d) e
  | 0, e, d => fun p c hp hc => ⟨Nat.le_refl _, hp, by show c ≤ 257; omega, fun h => by simp [objX] at h⟩
  | k + 1, e, d => fun p c hp hc => by
    have h1 := tagX_ok b hp
    rw [objX]
    split
    · rename_i he
      exact ⟨h1.1, h1.2.1, by show c ≤ 257; omega, fun h => absurd h he⟩
    · rename_i he
      have h1' := h1.2.2.1 (by simpa using he)
      have h2 := lenX_ok b (tagCons (tagX b e p).1 && !st) st h1.2.1
      generalize lenX b e (tagCons (tagX b e p).1 && !st) st (tagX b e p).2.2 = n at h2
      obtain ⟨n, e2, q⟩ := n
      simp only at h2
      have hq1 := h2.1
      have hq2 := h2.2.1
      unfold objY
      simp only
      split
      · rename_i he2
        exact ⟨by show p ≤ q; omega, hq2, by show c ≤ 257; omega, fun h => absurd h he2⟩
      · split
        · exact ⟨by show p ≤ q; omega, hq2, by show c + 1 ≤ 257; omega, fun h => by simp at h⟩
        · split
          · exact ⟨by show p ≤ q; omega, hq2, by show c + 1 ≤ 257; omega, fun h => by simp at h⟩
          · split
            · exact ⟨by show p ≤ q; omega, hq2, by show c + 1 ≤ 257; omega, fun h => by simp at h⟩
            · rename_i hn
              split
              · have := kidsX_ok (b := b) (objX_ok b st k e (d + 1)) (e + 1) q (c + 1) [] hq2 (by omega)
                exact ⟨Nat.le_trans (by omega) this.1, this.2.1, this.2.2.1, fun h => ⟨Nat.lt_of_lt_of_le (by omega) this.1, this.2.2.2 h⟩⟩
              · have hle : q + n.toNat ≤ e := by omega
                split
                · have := loopX_ok (objX_ok b st k (q + n.toNat) (d + 1)) (e + 1) q (c + 1) [] (by omega) (by omega)
                  exact ⟨Nat.le_trans (by omega) this.1, Nat.le_trans this.2.1 hle, this.2.2.1, fun h => ⟨Nat.lt_of_lt_of_le (by omega) this.1, this.2.2.2 h⟩⟩
                · exact ⟨by show p ≤ q + n.toNat; omega, hle, by show c + 1 ≤ 257; omega, fun h => ⟨by show p < q + n.toNat; omega, by show c + 1 ≤ 256; omega⟩⟩

set_option maxHeartbeats 16000000 in
set_option maxRecDepth 100000 in
theorem object_spec (b : List UInt8) (st : Bool) (hb : b.length ≤ 1000000) : ∀ (k d e : Nat), e ≤ b.length → d + k = 9 → ObjS b st (objX b st (k + 1) e d) e d := by
  intro k
  induction k using Nat.strongRecOn with
  | _ k ih =>
  intro d e he hdk p c hp hc
  generalize hfin : objX b st (k + 1) e d p c = fin
  rw [objX] at hfin
  have htag := tag_spec b st e p c hb he hp
  have htok := tagX_ok b hp
  generalize tagX b e p = tq at htag htok hfin
  obtain ⟨t, e1, p1⟩ := tq
  simp only at htag htok hfin
  have hcon := Constructed_spec t (by omega)
  have hlen := len_spec b (tagCons t && !st) st e p1 c hb he htok.2.1
  have hlok := lenX_ok b (tagCons t && !st) st htok.2.1
  generalize lenX b e (tagCons t && !st) st p1 = nq at hlen hlok hfin
  obtain ⟨n, e2, q⟩ := nq
  simp only [objY] at hlen hlok hfin
  generalize tagCons t = con at hcon hlen hfin
  have hwc : IntKind.i64.wrap ((c : Int) + 1) = ((c + 1 : Nat) : Int) := by rw [wrap_id (by omega)]; simp
  have hwd : IntKind.i64.wrap ((d : Int) + 1) = ((d + 1 : Nat) : Int) := by rw [wrap_id (by omega)]; simp
  refine Spec_of_body hT Tryz.func180 rfl rfl rfl rfl ?_
  intro E hE
  refine ww ?_
  refine AWk_op (callS1 rfl rfl htag [0] (by decide) rfl rfl rfl rfl rfl rfl rfl) rfl ?_
  refine ww ?_
  refine AW_condL rfl (fun h1 => ?_) (fun h1 => ?_)
  · have h1' : e1 ≠ 0 := by simpa using h1
    rw [if_pos h1'] at hfin
    subst hfin
    refine ww ?_
    exact ret_exact (r := .tup [.agg (nCells (.mk 0 [] [])), .d (.int .i64 e1)]) rfl (AV.le.tup ⟨AV.le.agg ⟨.refl _, AV.le.dat, AV.le.dat, trivial⟩, .refl _, trivial⟩) rfl rfl rfl rfl ⟨rfl, rfl⟩
  · have h1' : ¬ e1 ≠ 0 := by simpa using h1
    rw [if_neg h1'] at hfin
    refine ww ?_
    refine AWk_op (callS0 rfl rfl hcon rfl rfl rfl) rfl ?_
    refine ww ?_
    refine AWk_op (callS1 rfl rfl hlen [0] (by decide) rfl rfl rfl rfl rfl rfl rfl) rfl ?_
    refine ww ?_
    refine AW_condL rfl (fun h2 => ?_) (fun h2 => ?_)
    · have h2' : e2 ≠ 0 := by simpa using h2
      rw [if_pos h2'] at hfin
      subst hfin
      refine ww ?_
      exact ret_exact (r := .tup [.agg (nCells (.mk 0 [] [])), .d (.int .i64 e2)]) rfl (AV.le.tup ⟨AV.le.agg ⟨.refl _, AV.le.dat, AV.le.dat, trivial⟩, .refl _, trivial⟩) rfl rfl rfl rfl ⟨rfl, rfl⟩
    · have h2' : ¬ e2 ≠ 0 := by simpa using h2
      rw [if_neg h2'] at hfin
      have hwe : IntKind.i64.wrap ((e : Int) - (q : Int)) = (e : Int) - (q : Int) := wrap_id (by omega)
      refine ww ?_
      refine AW_condL rfl (fun h3 => ?_) (fun h3 => ?_)
      · have h3' : d > 8 := by simp at h3; omega
        rw [if_pos h3'] at hfin
        subst hfin
        refine ww ?_
        exact ret_exact (r := .tup [.agg (nCells (.mk 0 [] [])), .d (.int .i64 7)]) rfl (AV.le.tup ⟨AV.le.agg ⟨.refl _, AV.le.dat, AV.le.dat, trivial⟩, .refl _, trivial⟩) rfl rfl rfl rfl ⟨rfl, by rw [hwc]; rfl⟩
      · have h3' : ¬ d > 8 := by simp at h3; omega
        rw [if_neg h3'] at hfin
        refine ww ?_
        refine AW_condL rfl (fun h4 => ?_) (fun h4 => ?_)
        · have h4' : c + 1 > 256 := by rw [hwc] at h4; simp at h4; omega
          rw [if_pos h4'] at hfin
          subst hfin
          refine ww ?_
          exact ret_exact (r := .tup [.agg (nCells (.mk 0 [] [])), .d (.int .i64 2)]) rfl (AV.le.tup ⟨AV.le.agg ⟨.refl _, AV.le.dat, AV.le.dat, trivial⟩, .refl _, trivial⟩) rfl rfl rfl rfl ⟨rfl, by rw [hwc]; rfl⟩
        · have h4' : ¬ c + 1 > 256 := by rw [hwc] at h4; simp at h4; omega
          rw [if_neg h4'] at hfin
          refine ww ?_
          refine AW_condL rfl (fun h5 => ?_) (fun h5 => ?_)
          · have h5' : n > (e : Int) - (q : Int) := by rw [hwe] at h5; simp at h5; omega
            rw [if_pos h5'] at hfin
            subst hfin
            refine ww ?_
            exact ret_exact (r := .tup [.agg (nCells (.mk 0 [] [])), .d (.int .i64 6)]) rfl (AV.le.tup ⟨AV.le.agg ⟨.refl _, AV.le.dat, AV.le.dat, trivial⟩, .refl _, trivial⟩) rfl rfl rfl rfl ⟨rfl, by rw [hwc]; rfl⟩
          · have h5' : ¬ n > (e : Int) - (q : Int) := by rw [hwe] at h5; simp at h5; omega
            rw [if_neg h5'] at hfin
            obtain ⟨k, rfl⟩ : ∃ k', k = k' + 1 := ⟨k - 1, by omega⟩
            have hrow : rdr b st q (c + 1) = [.d (.sl 1 (encB b)), .d (.int .i64 (q : Int)), .d (.bool st), .d (.int .i64 (IntKind.i64.wrap ((c : Int) + 1)))] := by rw [hwc]; rfl
            refine ww ?_
            refine AW_condL rfl (fun h6 => ?_) (fun h6 => ?_)
            · have h6' : n = -1 := by simpa using h6
              rw [if_pos h6'] at hfin
              have hkd := kids_spec b st (objX b st (k + 1) e (d + 1)) e (d + 1) hb he (by omega) (objX_ok b st (k + 1) e (d + 1)) (ih k (by omega) (d + 1) e he (by omega)) q (c + 1) (e + 1) hlok.2.1 (by omega) (by omega)
              rw [← hwd, hrow] at hkd
              generalize kidsX b (objX b st (k + 1) e (d + 1)) e (e + 1) q (c + 1) [] = kr at hkd hfin
              obtain ⟨ks, e3, p3, c3⟩ := kr
              simp only at hkd hfin
              subst hfin
              refine ww ?_
              refine AWk_op (callS1 rfl rfl hkd [0] (by decide) rfl rfl rfl rfl rfl rfl rfl) rfl ?_
              refine ww ?_
              exact ret_exact (r := .tup [.agg (nCells (.mk t [] ks)), .d (.int .i64 e3)]) rfl (AV.le.tup ⟨AV.le.agg ⟨.refl _, AV.le.dat, .refl _, trivial⟩, .refl _, trivial⟩) rfl rfl rfl rfl ⟨rfl, rfl⟩
            · have h6' : ¬ n = -1 := by simpa using h6
              rw [if_neg h6'] at hfin
              obtain ⟨nn, rfl⟩ := Int.eq_ofNat_of_zero_le (show 0 ≤ n by omega)
              rw [Int.toNat_natCast] at hfin
              have hwn : IntKind.i64.wrap ((q : Int) + (nn : Int)) = ((q + nn : Nat) : Int) := by rw [wrap_id (by omega)]; simp
              refine ww ?_
              refine AW_condL rfl (fun h7 => ?_) (fun h7 => ?_)
              · rw [if_pos h7] at hfin
                have hob := objects_spec b st (objX b st (k + 1) (q + nn) (d + 1)) (q + nn) (d + 1) hb (by omega) (by omega) (objX_ok b st (k + 1) (q + nn) (d + 1)) (ih k (by omega) (d + 1) (q + nn) (by omega) (by omega)) q (c + 1) (e + 1) (by omega) (by omega) (by omega)
                rw [← hwd, ← hwn, hrow] at hob
                generalize loopX (objX b st (k + 1) (q + nn) (d + 1)) (q + nn) (e + 1) q (c + 1) [] = kr at hob hfin
                obtain ⟨ks, e3, p3, c3⟩ := kr
                simp only at hob hfin
                subst hfin
                refine ww ?_
                refine AWk_op (callS1 rfl rfl hob [0] (by decide) rfl rfl rfl rfl rfl rfl rfl) rfl ?_
                refine ww ?_
                exact ret_exact (r := .tup [.agg (nCells (.mk t [] ks)), .d (.int .i64 e3)]) rfl (AV.le.tup ⟨AV.le.agg ⟨.refl _, AV.le.dat, .refl _, trivial⟩, .refl _, trivial⟩) rfl rfl rfl rfl ⟨rfl, rfl⟩
              · have h7' : ¬ con = true := by simp [h7]
                rw [if_neg h7'] at hfin
                subst hfin
                refine wwe ?_
                have hbl := encB_length b
                have hwn2 : IntKind.i64.wrap (((q + nn : Nat) : Int)) = ((q + nn : Nat) : Int) := wrap_id (by omega)
                have hcut : cutL (encB b) (q : Int) (IntKind.i64.wrap ((q : Int) + (nn : Int))) = encB ((b.drop q).take nn) := by
                  rw [hwn]; unfold cutL; rw [encB_drop, encB_take, Int.toNat_natCast]; congr 2; omega
                have hcl := CloneB_spec (cutL (encB b) (q : Int) (IntKind.i64.wrap ((q : Int) + (nn : Int)))) (by rw [hcut, encB_length, List.length_take, List.length_drop]; omega)
                refine AW_seq ?_
                refine AW_drawG (fun i => bif Nat.beq i 3 || Nat.beq i 7 || Nat.beq i 11 then [0] else bif Nat.beq i 17 then [2] else []) (fun i => bif Nat.beq i 17 then [2] else []) mixed (by kernel_rfl) ?_
                refine wwg ?_
                refine AWg_op (os := []) (fun k hk1 hk2 => callS0 rfl rfl hcl rfl rfl rfl) rfl ?_
                refine wwg ?_
                refine ww ?_
                exact ret_exact (r := .tup [.agg (nCells (.mk t ((b.drop q).take nn) [])), .d (.int .i64 0)]) rfl (AV.le.tup ⟨AV.le.agg ⟨.refl _, AV.le.eq (congrArg (fun z => AV.d (.sl 1 z)) hcut), AV.le.dat, trivial⟩, AV.le.eq (congrArg (fun z => AV.d (.int .i64 z)) (show e2 = 0 by omega)), trivial⟩) rfl rfl rfl rfl ⟨rfl, by rw [hwc, hwn]; rfl⟩

/-- What Parse says: the objects, and an error's number. -/
def parseX (b : List UInt8) (st : Bool) : List Node × Int :=
  if b.length > 4096 then ([], 2) else ((loopX (objX b st 9 b.length 1) b.length (b.length + 1) 0 0 []).1, (loopX (objX b st 9 b.length 1) b.length (b.length + 1) 0 0 []).2.1)

set_option maxHeartbeats 4000000 in
set_option maxRecDepth 100000 in
theorem Parse_spec (b : List UInt8) (st : Bool) (hb : b.length ≤ 1000000) :
    Spec Tryz.prog 58 [.d (.sl 1 (encB b)), .d (.bool st)] [] (fun r h' => r = .tup [.d (.sl 3 (encNs (parseX b st).1)), .d (.int .i64 (parseX b st).2)] ∧ h' = []) := by
  have hbl := encB_length b
  have hob := objects_spec b st (objX b st 9 b.length 1) b.length 1 hb (Nat.le_refl _) (by omega) (objX_ok b st 9 b.length 1) (object_spec b st hb 8 1 b.length (Nat.le_refl _) rfl) 0 0 (b.length + 1) (by omega) (by omega) (by omega)
  refine Spec_of_body hT Tryz.func58 rfl rfl rfl rfl ?_
  intro E hE
  unfold parseX
  refine ww ?_
  refine AW_condL rfl (fun h1 => ?_) (fun h1 => ?_)
  · have h1' : b.length > 4096 := by rw [hbl] at h1; simp at h1; omega
    rw [if_pos h1']
    refine ww ?_
    exact ret_exact (r := .tup [.d (.sl 3 (encNs [])), .d (.int .i64 2)]) rfl (AV.le.tup ⟨AV.le.nils, .refl _, trivial⟩) rfl rfl rfl rfl ⟨rfl, rfl⟩
  · have h1' : ¬ b.length > 4096 := by rw [hbl] at h1; simp at h1; omega
    rw [if_neg h1']
    generalize loopX (objX b st 9 b.length 1) b.length (b.length + 1) 0 0 [] = kr at hob
    obtain ⟨ks, e3, p3, c3⟩ := kr
    simp only at hob ⊢
    rw [← hbl] at hob
    refine ww ?_
    refine AWk_op (callS1 rfl rfl hob [0] (by decide) rfl rfl rfl rfl rfl rfl rfl) rfl ?_
    refine ww ?_
    exact ret_exact rfl (.refl _) rfl rfl rfl rfl ⟨rfl, rfl⟩
end Tdoc
