/- The table of the types of this seat, as the symbolic executor takes it, with its proof. -/
import Derived.Test.YtiicemgngccicaaSxI
import Derived.Test.YtiicemgngccicaaProg
import Derived.KernelRfl
namespace Go.Proofs.Ytiicemgngccicaa
open Go.Sx

def z1 : List Value := [.nilFunc]
def z2 : List Value := [.int .i64 0]
def z3 : List Value := [.int .i64 0]
def z4 : List Value := [.bool false]
def z5 : List Value := [.int .u8 0]
def z6 : List Value := [.int .u8 0]
def z7 : List Value := [.int .i64 0, .int .i64 0, .bool false, .int .u8 0]
def z8 : List Value := [.int .i64 0, .int .i64 0, .bool false, .int .u8 0]
def z9 : List Value := [.string ⟨#[]⟩]
def z10 : List Value := [.string ⟨#[]⟩]
def z11 : List Value := [.string ⟨#[]⟩]
def z12 : List Value := [.int .u64 0]
def z13 : List Value := [.string ⟨#[]⟩, .int .u64 0]
def z14 : List Value := [.string ⟨#[]⟩, .int .u64 0]
def z15 : List Value := [.pointer none]
def z16 : List Value := [.pointer none]
def z17 : List Value := [.pointer none]
def z18 : List Value := [.pointer none]
def z19 : List Value := [.pointer none]
def z20 : List Value := [.nilIface]
def z21 : List Value := [.int .i32 0]
def z22 : List Value := [.slice none 0 0]
def z23 : List Value := [.slice none 0 0, .int .i64 0]
def z24 : List Value := [.slice none 0 0, .int .i64 0]
def z25 : List Value := [.int .i64 0, .int .i64 0, .int .i64 0, .int .i64 0]
def z26 : List Value := [.int .i64 0, .int .i64 0, .int .i64 0, .int .i64 0]
def z27 : List Value := [.nilFunc]
def z28 : List Value := [.nilFunc]
def z29 : List Value := [.int .i64 0, .int .i64 0]
def z30 : List Value := [.int .i64 0, .int .i64 0]
def z31 : List Value := [.int .i64 0]
def z33 : List Value := [.nilFunc]
def z34 : List Value := [.nilFunc]
def z35 : List Value := [.int .i64 0, .int .i64 0, .int .i64 0, .int .i64 0, .int .i64 0, .int .i64 0, .int .i64 0, .int .i64 0]
def z36 : List Value := [.int .i64 0, .int .i64 0, .int .i64 0, .int .i64 0, .int .i64 0, .int .i64 0, .int .i64 0, .int .i64 0]
def z38 : List Value := [.nilFunc]
def z39 : List Value := [.nilFunc]
def z40 : List Value := [.nilFunc]
def z41 : List Value := (List.replicate 2 (z5)).flatten
def z42 : List Value := [.nilFunc]
def z43 : List Value := [.nilFunc]
def z45 : List Value := [.nilFunc]
def z46 : List Value := [.nilFunc]
def z47 : List Value := [.slice none 0 0]
def z49 : List Value := [.nilFunc]
def z50 : List Value := [.nilFunc]
def z51 : List Value := [.nilFunc]
def z52 : List Value := [.nilFunc]
def z53 : List Value := [.nilFunc]
def z54 : List Value := [.int .i64 0, .int .i64 0]
def z55 : List Value := [.int .i64 0, .int .i64 0]
def z56 : List Value := [.nilFunc]
def z57 : List Value := [.nilFunc]
def z58 : List Value := [.nilFunc]
def z59 : List Value := [.nilFunc]
def z61 : List Value := [.nilFunc]
def z62 : List Value := [.nilFunc]
def z63 : List Value := [.nilFunc]
def z64 : List Value := [.nilFunc]
def z65 : List Value := [.nilFunc]
def z66 : List Value := [.nilFunc]
def z67 : List Value := [.nilFunc]
def z68 : List Value := [.nilFunc]
def z69 : List Value := [.nilFunc]
def z70 : List Value := [.nilFunc]
def z71 : List Value := [.nilFunc]
def z72 : List Value := [.nilFunc]
def z73 : List Value := [.nilFunc]
def z74 : List Value := [.nilFunc]
def z75 : List Value := [.nilFunc]
def z76 : List Value := [.nilFunc]
def z77 : List Value := [.nilFunc]
def z78 : List Value := [.nilFunc]
def z79 : List Value := [.nilFunc]
def z80 : List Value := [.nilFunc]
def z81 : List Value := [.nilFunc]
def z82 : List Value := [.nilFunc]
def z84 : List Value := [.nilFunc]
def z85 : List Value := [.nilFunc]
def z86 : List Value := [.nilFunc]
def z88 : List Value := [.nilFunc]
def z89 : List Value := [.nilFunc]
def z90 : List Value := [.slice none 0 0]
def z91 : List Value := [.nilFunc]
def z92 : List Value := [.int .u64 0]
def z93 : List Value := (List.replicate 2 (z92)).flatten
def z94 : List Value := (List.replicate 2 (z92)).flatten
def z95 : List Value := [.nilFunc]
def z97 : List Value := [.nilFunc]
def z98 : List Value := [.nilFunc]
def z99 : List Value := (List.replicate 5 (z63)).flatten
def z100 : List Value := [.nilFunc]
def z101 : List Value := [.nilFunc]
def z102 : List Value := [.nilFunc]
def z103 : List Value := [.nilFunc]
def z104 : List Value := [.nilFunc]
def z105 : List Value := [.nilIface]
def z107 : List Value := [.int .u64 0]
def z108 : List Value := [.nilFunc]
def z109 : List Value := [.slice none 0 0]
def z110 : List Value := [.nilFunc]
def z111 : List Value := [.int .u64 0, .int .u64 0]
def z112 : List Value := [.int .u64 0, .int .u64 0]
def z113 : List Value := [.nilFunc]
def z114 : List Value := [.nilFunc]
def z115 : List Value := [.nilFunc]
def z116 : List Value := [.pointer none]
def z117 : List Value := [.nilFunc]
def z118 : List Value := [.pointer none, .pointer none, .pointer none, .string ⟨#[]⟩]
def z119 : List Value := [.pointer none, .pointer none, .pointer none, .string ⟨#[]⟩]
def z120 : List Value := (List.replicate 0 (z16)).flatten
def z123 : List Value := [.nilFunc]
def z124 : List Value := [.int .u32 0]
def z125 : List Value := [.int .u8 0]
def z126 : List Value := [.int .u8 0]
def z127 : List Value := [.nilFunc]
def z128 : List Value := [.pointer none]
def z129 : List Value := [.int .i32 0]
def z130 : List Value := [.int .i32 0]
def z131 : List Value := [.int .u64 0, .int .u64 0, .int .u32 0, .int .u8 0, .int .u8 0, .int .u8 0, .int .u8 0, .nilFunc, .pointer none, .int .i32 0, .int .i32 0]
def z132 : List Value := [.int .u64 0, .int .u64 0, .int .u32 0, .int .u8 0, .int .u8 0, .int .u8 0, .int .u8 0, .nilFunc, .pointer none, .int .i32 0, .int .i32 0]
def z133 : List Value := [.string ⟨#[]⟩]
def z134 : List Value := [.string ⟨#[]⟩]
def d1 : TyD := ⟨.other, 1, [.nilFunc]⟩
def d2 : TyD := ⟨.int .i64, 1, [.int .i64 0]⟩
def d3 : TyD := ⟨.int .i64, 1, [.int .i64 0]⟩
def d4 : TyD := ⟨.bool, 1, [.bool false]⟩
def d5 : TyD := ⟨.int .u8, 1, [.int .u8 0]⟩
def d6 : TyD := ⟨.int .u8, 1, [.int .u8 0]⟩
def d7 : TyD := ⟨.struct [(0, 2), (1, 3), (2, 4), (3, 6)], 4, [.int .i64 0, .int .i64 0, .bool false, .int .u8 0]⟩
def d8 : TyD := ⟨.struct [(0, 2), (1, 3), (2, 4), (3, 6)], 4, [.int .i64 0, .int .i64 0, .bool false, .int .u8 0]⟩
def d9 : TyD := ⟨.str, 1, [.string ⟨#[]⟩]⟩
def d10 : TyD := ⟨.str, 1, [.string ⟨#[]⟩]⟩
def d11 : TyD := ⟨.str, 1, [.string ⟨#[]⟩]⟩
def d12 : TyD := ⟨.int .u64, 1, [.int .u64 0]⟩
def d13 : TyD := ⟨.struct [(0, 9), (1, 12)], 2, [.string ⟨#[]⟩, .int .u64 0]⟩
def d14 : TyD := ⟨.struct [(0, 9), (1, 12)], 2, [.string ⟨#[]⟩, .int .u64 0]⟩
def d15 : TyD := ⟨.other, 1, [.pointer none]⟩
def d16 : TyD := ⟨.other, 1, [.pointer none]⟩
def d17 : TyD := ⟨.other, 1, [.pointer none]⟩
def d18 : TyD := ⟨.struct [(0, 17)], 1, [.pointer none]⟩
def d19 : TyD := ⟨.struct [(0, 17)], 1, [.pointer none]⟩
def d20 : TyD := ⟨.other, 1, [.nilIface]⟩
def d21 : TyD := ⟨.int .i32, 1, [.int .i32 0]⟩
def d22 : TyD := ⟨.slice 55, 1, [.slice none 0 0]⟩
def d23 : TyD := ⟨.struct [(0, 22), (1, 3)], 2, [.slice none 0 0, .int .i64 0]⟩
def d24 : TyD := ⟨.struct [(0, 22), (1, 3)], 2, [.slice none 0 0, .int .i64 0]⟩
def d25 : TyD := ⟨.struct [(0, 3), (1, 3), (2, 3), (3, 3)], 4, [.int .i64 0, .int .i64 0, .int .i64 0, .int .i64 0]⟩
def d26 : TyD := ⟨.struct [(0, 3), (1, 3), (2, 3), (3, 3)], 4, [.int .i64 0, .int .i64 0, .int .i64 0, .int .i64 0]⟩
def d27 : TyD := ⟨.other, 1, [.nilFunc]⟩
def d28 : TyD := ⟨.other, 1, [.nilFunc]⟩
def d29 : TyD := ⟨.struct [(0, 3), (1, 3)], 2, [.int .i64 0, .int .i64 0]⟩
def d30 : TyD := ⟨.struct [(0, 3), (1, 3)], 2, [.int .i64 0, .int .i64 0]⟩
def d31 : TyD := ⟨.int .i64, 1, [.int .i64 0]⟩
def d33 : TyD := ⟨.other, 1, [.nilFunc]⟩
def d34 : TyD := ⟨.other, 1, [.nilFunc]⟩
def d35 : TyD := ⟨.struct [(0, 26), (4, 30), (6, 30)], 8, [.int .i64 0, .int .i64 0, .int .i64 0, .int .i64 0, .int .i64 0, .int .i64 0, .int .i64 0, .int .i64 0]⟩
def d36 : TyD := ⟨.struct [(0, 26), (4, 30), (6, 30)], 8, [.int .i64 0, .int .i64 0, .int .i64 0, .int .i64 0, .int .i64 0, .int .i64 0, .int .i64 0, .int .i64 0]⟩
def d38 : TyD := ⟨.other, 1, [.nilFunc]⟩
def d39 : TyD := ⟨.other, 1, [.nilFunc]⟩
def d40 : TyD := ⟨.other, 1, [.nilFunc]⟩
def d41 : TyD := ⟨.array 2 5, 2, z41⟩
def d42 : TyD := ⟨.other, 1, [.nilFunc]⟩
def d43 : TyD := ⟨.other, 1, [.nilFunc]⟩
def d45 : TyD := ⟨.other, 1, [.nilFunc]⟩
def d46 : TyD := ⟨.other, 1, [.nilFunc]⟩
def d47 : TyD := ⟨.slice 36, 1, [.slice none 0 0]⟩
def d49 : TyD := ⟨.other, 1, [.nilFunc]⟩
def d50 : TyD := ⟨.other, 1, [.nilFunc]⟩
def d51 : TyD := ⟨.other, 1, [.nilFunc]⟩
def d52 : TyD := ⟨.other, 1, [.nilFunc]⟩
def d53 : TyD := ⟨.other, 1, [.nilFunc]⟩
def d54 : TyD := ⟨.struct [(0, 3), (1, 3)], 2, [.int .i64 0, .int .i64 0]⟩
def d55 : TyD := ⟨.struct [(0, 3), (1, 3)], 2, [.int .i64 0, .int .i64 0]⟩
def d56 : TyD := ⟨.other, 1, [.nilFunc]⟩
def d57 : TyD := ⟨.other, 1, [.nilFunc]⟩
def d58 : TyD := ⟨.other, 1, [.nilFunc]⟩
def d59 : TyD := ⟨.other, 1, [.nilFunc]⟩
def d61 : TyD := ⟨.other, 1, [.nilFunc]⟩
def d62 : TyD := ⟨.other, 1, [.nilFunc]⟩
def d63 : TyD := ⟨.other, 1, [.nilFunc]⟩
def d64 : TyD := ⟨.other, 1, [.nilFunc]⟩
def d65 : TyD := ⟨.other, 1, [.nilFunc]⟩
def d66 : TyD := ⟨.other, 1, [.nilFunc]⟩
def d67 : TyD := ⟨.other, 1, [.nilFunc]⟩
def d68 : TyD := ⟨.other, 1, [.nilFunc]⟩
def d69 : TyD := ⟨.other, 1, [.nilFunc]⟩
def d70 : TyD := ⟨.other, 1, [.nilFunc]⟩
def d71 : TyD := ⟨.other, 1, [.nilFunc]⟩
def d72 : TyD := ⟨.other, 1, [.nilFunc]⟩
def d73 : TyD := ⟨.other, 1, [.nilFunc]⟩
def d74 : TyD := ⟨.other, 1, [.nilFunc]⟩
def d75 : TyD := ⟨.other, 1, [.nilFunc]⟩
def d76 : TyD := ⟨.other, 1, [.nilFunc]⟩
def d77 : TyD := ⟨.other, 1, [.nilFunc]⟩
def d78 : TyD := ⟨.other, 1, [.nilFunc]⟩
def d79 : TyD := ⟨.other, 1, [.nilFunc]⟩
def d80 : TyD := ⟨.other, 1, [.nilFunc]⟩
def d81 : TyD := ⟨.other, 1, [.nilFunc]⟩
def d82 : TyD := ⟨.other, 1, [.nilFunc]⟩
def d84 : TyD := ⟨.other, 1, [.nilFunc]⟩
def d85 : TyD := ⟨.other, 1, [.nilFunc]⟩
def d86 : TyD := ⟨.other, 1, [.nilFunc]⟩
def d88 : TyD := ⟨.other, 1, [.nilFunc]⟩
def d89 : TyD := ⟨.other, 1, [.nilFunc]⟩
def d90 : TyD := ⟨.slice 3, 1, [.slice none 0 0]⟩
def d91 : TyD := ⟨.other, 1, [.nilFunc]⟩
def d92 : TyD := ⟨.int .u64, 1, [.int .u64 0]⟩
def d93 : TyD := ⟨.array 2 92, 2, z93⟩
def d94 : TyD := ⟨.array 2 92, 2, z94⟩
def d95 : TyD := ⟨.other, 1, [.nilFunc]⟩
def d97 : TyD := ⟨.other, 1, [.nilFunc]⟩
def d98 : TyD := ⟨.other, 1, [.nilFunc]⟩
def d99 : TyD := ⟨.array 5 63, 5, z99⟩
def d100 : TyD := ⟨.other, 1, [.nilFunc]⟩
def d101 : TyD := ⟨.other, 1, [.nilFunc]⟩
def d102 : TyD := ⟨.other, 1, [.nilFunc]⟩
def d103 : TyD := ⟨.other, 1, [.nilFunc]⟩
def d104 : TyD := ⟨.other, 1, [.nilFunc]⟩
def d105 : TyD := ⟨.other, 1, [.nilIface]⟩
def d107 : TyD := ⟨.int .u64, 1, [.int .u64 0]⟩
def d108 : TyD := ⟨.other, 1, [.nilFunc]⟩
def d109 : TyD := ⟨.slice 9, 1, [.slice none 0 0]⟩
def d110 : TyD := ⟨.other, 1, [.nilFunc]⟩
def d111 : TyD := ⟨.struct [(0, 92), (1, 92)], 2, [.int .u64 0, .int .u64 0]⟩
def d112 : TyD := ⟨.struct [(0, 92), (1, 92)], 2, [.int .u64 0, .int .u64 0]⟩
def d113 : TyD := ⟨.other, 1, [.nilFunc]⟩
def d114 : TyD := ⟨.other, 1, [.nilFunc]⟩
def d115 : TyD := ⟨.other, 1, [.nilFunc]⟩
def d116 : TyD := ⟨.other, 1, [.pointer none]⟩
def d117 : TyD := ⟨.other, 1, [.nilFunc]⟩
def d118 : TyD := ⟨.struct [(0, 17), (1, 17), (2, 17), (3, 9)], 4, [.pointer none, .pointer none, .pointer none, .string ⟨#[]⟩]⟩
def d119 : TyD := ⟨.struct [(0, 17), (1, 17), (2, 17), (3, 9)], 4, [.pointer none, .pointer none, .pointer none, .string ⟨#[]⟩]⟩
def d120 : TyD := ⟨.array 0 16, 0, z120⟩
def d123 : TyD := ⟨.other, 1, [.nilFunc]⟩
def d124 : TyD := ⟨.int .u32, 1, [.int .u32 0]⟩
def d125 : TyD := ⟨.int .u8, 1, [.int .u8 0]⟩
def d126 : TyD := ⟨.int .u8, 1, [.int .u8 0]⟩
def d127 : TyD := ⟨.other, 1, [.nilFunc]⟩
def d128 : TyD := ⟨.other, 1, [.pointer none]⟩
def d129 : TyD := ⟨.int .i32, 1, [.int .i32 0]⟩
def d130 : TyD := ⟨.int .i32, 1, [.int .i32 0]⟩
def d131 : TyD := ⟨.struct [(0, 12), (1, 12), (2, 124), (3, 125), (4, 5), (5, 5), (6, 126), (7, 127), (8, 128), (9, 129), (10, 130)], 11, [.int .u64 0, .int .u64 0, .int .u32 0, .int .u8 0, .int .u8 0, .int .u8 0, .int .u8 0, .nilFunc, .pointer none, .int .i32 0, .int .i32 0]⟩
def d132 : TyD := ⟨.struct [(0, 12), (1, 12), (2, 124), (3, 125), (4, 5), (5, 5), (6, 126), (7, 127), (8, 128), (9, 129), (10, 130)], 11, [.int .u64 0, .int .u64 0, .int .u32 0, .int .u8 0, .int .u8 0, .int .u8 0, .int .u8 0, .nilFunc, .pointer none, .int .i32 0, .int .i32 0]⟩
def d133 : TyD := ⟨.struct [(0, 9)], 1, [.string ⟨#[]⟩]⟩
def d134 : TyD := ⟨.struct [(0, 9)], 1, [.string ⟨#[]⟩]⟩
def TT : Tab
  | 1 => some d1
  | 2 => some d2
  | 3 => some d3
  | 4 => some d4
  | 5 => some d5
  | 6 => some d6
  | 7 => some d7
  | 8 => some d8
  | 9 => some d9
  | 10 => some d10
  | 11 => some d11
  | 12 => some d12
  | 13 => some d13
  | 14 => some d14
  | 15 => some d15
  | 16 => some d16
  | 17 => some d17
  | 18 => some d18
  | 19 => some d19
  | 20 => some d20
  | 21 => some d21
  | 22 => some d22
  | 23 => some d23
  | 24 => some d24
  | 25 => some d25
  | 26 => some d26
  | 27 => some d27
  | 28 => some d28
  | 29 => some d29
  | 30 => some d30
  | 31 => some d31
  | 33 => some d33
  | 34 => some d34
  | 35 => some d35
  | 36 => some d36
  | 38 => some d38
  | 39 => some d39
  | 40 => some d40
  | 41 => some d41
  | 42 => some d42
  | 43 => some d43
  | 45 => some d45
  | 46 => some d46
  | 47 => some d47
  | 49 => some d49
  | 50 => some d50
  | 51 => some d51
  | 52 => some d52
  | 53 => some d53
  | 54 => some d54
  | 55 => some d55
  | 56 => some d56
  | 57 => some d57
  | 58 => some d58
  | 59 => some d59
  | 61 => some d61
  | 62 => some d62
  | 63 => some d63
  | 64 => some d64
  | 65 => some d65
  | 66 => some d66
  | 67 => some d67
  | 68 => some d68
  | 69 => some d69
  | 70 => some d70
  | 71 => some d71
  | 72 => some d72
  | 73 => some d73
  | 74 => some d74
  | 75 => some d75
  | 76 => some d76
  | 77 => some d77
  | 78 => some d78
  | 79 => some d79
  | 80 => some d80
  | 81 => some d81
  | 82 => some d82
  | 84 => some d84
  | 85 => some d85
  | 86 => some d86
  | 88 => some d88
  | 89 => some d89
  | 90 => some d90
  | 91 => some d91
  | 92 => some d92
  | 93 => some d93
  | 94 => some d94
  | 95 => some d95
  | 97 => some d97
  | 98 => some d98
  | 99 => some d99
  | 100 => some d100
  | 101 => some d101
  | 102 => some d102
  | 103 => some d103
  | 104 => some d104
  | 105 => some d105
  | 107 => some d107
  | 108 => some d108
  | 109 => some d109
  | 110 => some d110
  | 111 => some d111
  | 112 => some d112
  | 113 => some d113
  | 114 => some d114
  | 115 => some d115
  | 116 => some d116
  | 117 => some d117
  | 118 => some d118
  | 119 => some d119
  | 120 => some d120
  | 123 => some d123
  | 124 => some d124
  | 125 => some d125
  | 126 => some d126
  | 127 => some d127
  | 128 => some d128
  | 129 => some d129
  | 130 => some d130
  | 131 => some d131
  | 132 => some d132
  | 133 => some d133
  | 134 => some d134
  | _ => none
theorem ty1 : TyOK Try.prog 1 d1 := ⟨fun w => Try.sizeOf1 w, fun w => Try.isAgg1 w, fun w => Try.zeroValue1 w, rfl, (fun h => by first | rfl | cases h), rfl, trivial⟩
theorem ty2 : TyOK Try.prog 2 d2 := ⟨fun w => Try.sizeOf2 w, fun w => Try.isAgg2 w, fun w => Try.zeroValue2 w, rfl, (fun h => by first | rfl | cases h), rfl, fun w => Try.runUnderlying2 w⟩
theorem ty3 : TyOK Try.prog 3 d3 := ⟨fun w => Try.sizeOf3 w, fun w => Try.isAgg3 w, fun w => Try.zeroValue3 w, rfl, (fun h => by first | rfl | cases h), rfl, fun w => Try.runUnderlying3 w⟩
theorem ty4 : TyOK Try.prog 4 d4 := ⟨fun w => Try.sizeOf4 w, fun w => Try.isAgg4 w, fun w => Try.zeroValue4 w, rfl, (fun h => by first | rfl | cases h), rfl, fun w => Try.runUnderlying4 w⟩
theorem ty5 : TyOK Try.prog 5 d5 := ⟨fun w => Try.sizeOf5 w, fun w => Try.isAgg5 w, fun w => Try.zeroValue5 w, rfl, (fun h => by first | rfl | cases h), rfl, fun w => Try.runUnderlying5 w⟩
theorem ty6 : TyOK Try.prog 6 d6 := ⟨fun w => Try.sizeOf6 w, fun w => Try.isAgg6 w, fun w => Try.zeroValue6 w, rfl, (fun h => by first | rfl | cases h), rfl, fun w => Try.runUnderlying6 w⟩
theorem ty7 : TyOK Try.prog 7 d7 := ⟨fun w => Try.sizeOf7 w, fun w => Try.isAgg7 w, fun w => Try.zeroValue7 w, rfl, (fun h => by first | rfl | cases h), rfl, ⟨_, fun w => Try.runUnderlying7 w, rfl⟩⟩
theorem ty8 : TyOK Try.prog 8 d8 := ⟨fun w => Try.sizeOf8 w, fun w => Try.isAgg8 w, fun w => Try.zeroValue8 w, rfl, (fun h => by first | rfl | cases h), rfl, ⟨_, fun w => Try.runUnderlying8 w, rfl⟩⟩
theorem ty9 : TyOK Try.prog 9 d9 := ⟨fun w => Try.sizeOf9 w, fun w => Try.isAgg9 w, fun w => Try.zeroValue9 w, rfl, (fun h => by first | rfl | cases h), rfl, fun w => Try.runUnderlying9 w⟩
theorem ty10 : TyOK Try.prog 10 d10 := ⟨fun w => Try.sizeOf10 w, fun w => Try.isAgg10 w, fun w => Try.zeroValue10 w, rfl, (fun h => by first | rfl | cases h), rfl, fun w => Try.runUnderlying10 w⟩
theorem ty11 : TyOK Try.prog 11 d11 := ⟨fun w => Try.sizeOf11 w, fun w => Try.isAgg11 w, fun w => Try.zeroValue11 w, rfl, (fun h => by first | rfl | cases h), rfl, fun w => Try.runUnderlying11 w⟩
theorem ty12 : TyOK Try.prog 12 d12 := ⟨fun w => Try.sizeOf12 w, fun w => Try.isAgg12 w, fun w => Try.zeroValue12 w, rfl, (fun h => by first | rfl | cases h), rfl, fun w => Try.runUnderlying12 w⟩
theorem ty13 : TyOK Try.prog 13 d13 := ⟨fun w => Try.sizeOf13 w, fun w => Try.isAgg13 w, fun w => Try.zeroValue13 w, rfl, (fun h => by first | rfl | cases h), rfl, ⟨_, fun w => Try.runUnderlying13 w, rfl⟩⟩
theorem ty14 : TyOK Try.prog 14 d14 := ⟨fun w => Try.sizeOf14 w, fun w => Try.isAgg14 w, fun w => Try.zeroValue14 w, rfl, (fun h => by first | rfl | cases h), rfl, ⟨_, fun w => Try.runUnderlying14 w, rfl⟩⟩
theorem ty15 : TyOK Try.prog 15 d15 := ⟨fun w => Try.sizeOf15 w, fun w => Try.isAgg15 w, fun w => Try.zeroValue15 w, rfl, (fun h => by first | rfl | cases h), rfl, trivial⟩
theorem ty16 : TyOK Try.prog 16 d16 := ⟨fun w => Try.sizeOf16 w, fun w => Try.isAgg16 w, fun w => Try.zeroValue16 w, rfl, (fun h => by first | rfl | cases h), rfl, trivial⟩
theorem ty17 : TyOK Try.prog 17 d17 := ⟨fun w => Try.sizeOf17 w, fun w => Try.isAgg17 w, fun w => Try.zeroValue17 w, rfl, (fun h => by first | rfl | cases h), rfl, trivial⟩
theorem ty18 : TyOK Try.prog 18 d18 := ⟨fun w => Try.sizeOf18 w, fun w => Try.isAgg18 w, fun w => Try.zeroValue18 w, rfl, (fun h => by first | rfl | cases h), rfl, ⟨_, fun w => Try.runUnderlying18 w, rfl⟩⟩
theorem ty19 : TyOK Try.prog 19 d19 := ⟨fun w => Try.sizeOf19 w, fun w => Try.isAgg19 w, fun w => Try.zeroValue19 w, rfl, (fun h => by first | rfl | cases h), rfl, ⟨_, fun w => Try.runUnderlying19 w, rfl⟩⟩
theorem ty20 : TyOK Try.prog 20 d20 := ⟨fun w => Try.sizeOf20 w, fun w => Try.isAgg20 w, fun w => Try.zeroValue20 w, rfl, (fun h => by first | rfl | cases h), rfl, trivial⟩
theorem ty21 : TyOK Try.prog 21 d21 := ⟨fun w => Try.sizeOf21 w, fun w => Try.isAgg21 w, fun w => Try.zeroValue21 w, rfl, (fun h => by first | rfl | cases h), rfl, fun w => Try.runUnderlying21 w⟩
theorem ty22 : TyOK Try.prog 22 d22 := ⟨fun w => Try.sizeOf22 w, fun w => Try.isAgg22 w, fun w => Try.zeroValue22 w, rfl, (fun h => by first | rfl | cases h), rfl, fun w => Try.runUnderlying22 w⟩
theorem ty23 : TyOK Try.prog 23 d23 := ⟨fun w => Try.sizeOf23 w, fun w => Try.isAgg23 w, fun w => Try.zeroValue23 w, rfl, (fun h => by first | rfl | cases h), rfl, ⟨_, fun w => Try.runUnderlying23 w, rfl⟩⟩
theorem ty24 : TyOK Try.prog 24 d24 := ⟨fun w => Try.sizeOf24 w, fun w => Try.isAgg24 w, fun w => Try.zeroValue24 w, rfl, (fun h => by first | rfl | cases h), rfl, ⟨_, fun w => Try.runUnderlying24 w, rfl⟩⟩
theorem ty25 : TyOK Try.prog 25 d25 := ⟨fun w => Try.sizeOf25 w, fun w => Try.isAgg25 w, fun w => Try.zeroValue25 w, rfl, (fun h => by first | rfl | cases h), rfl, ⟨_, fun w => Try.runUnderlying25 w, rfl⟩⟩
theorem ty26 : TyOK Try.prog 26 d26 := ⟨fun w => Try.sizeOf26 w, fun w => Try.isAgg26 w, fun w => Try.zeroValue26 w, rfl, (fun h => by first | rfl | cases h), rfl, ⟨_, fun w => Try.runUnderlying26 w, rfl⟩⟩
theorem ty27 : TyOK Try.prog 27 d27 := ⟨fun w => Try.sizeOf27 w, fun w => Try.isAgg27 w, fun w => Try.zeroValue27 w, rfl, (fun h => by first | rfl | cases h), rfl, trivial⟩
theorem ty28 : TyOK Try.prog 28 d28 := ⟨fun w => Try.sizeOf28 w, fun w => Try.isAgg28 w, fun w => Try.zeroValue28 w, rfl, (fun h => by first | rfl | cases h), rfl, trivial⟩
theorem ty29 : TyOK Try.prog 29 d29 := ⟨fun w => Try.sizeOf29 w, fun w => Try.isAgg29 w, fun w => Try.zeroValue29 w, rfl, (fun h => by first | rfl | cases h), rfl, ⟨_, fun w => Try.runUnderlying29 w, rfl⟩⟩
theorem ty30 : TyOK Try.prog 30 d30 := ⟨fun w => Try.sizeOf30 w, fun w => Try.isAgg30 w, fun w => Try.zeroValue30 w, rfl, (fun h => by first | rfl | cases h), rfl, ⟨_, fun w => Try.runUnderlying30 w, rfl⟩⟩
theorem ty31 : TyOK Try.prog 31 d31 := ⟨fun w => Try.sizeOf31 w, fun w => Try.isAgg31 w, fun w => Try.zeroValue31 w, rfl, (fun h => by first | rfl | cases h), rfl, fun w => Try.runUnderlying31 w⟩
theorem ty33 : TyOK Try.prog 33 d33 := ⟨fun w => Try.sizeOf33 w, fun w => Try.isAgg33 w, fun w => Try.zeroValue33 w, rfl, (fun h => by first | rfl | cases h), rfl, trivial⟩
theorem ty34 : TyOK Try.prog 34 d34 := ⟨fun w => Try.sizeOf34 w, fun w => Try.isAgg34 w, fun w => Try.zeroValue34 w, rfl, (fun h => by first | rfl | cases h), rfl, trivial⟩
theorem ty35 : TyOK Try.prog 35 d35 := ⟨fun w => Try.sizeOf35 w, fun w => Try.isAgg35 w, fun w => Try.zeroValue35 w, rfl, (fun h => by first | rfl | cases h), rfl, ⟨_, fun w => Try.runUnderlying35 w, rfl⟩⟩
theorem ty36 : TyOK Try.prog 36 d36 := ⟨fun w => Try.sizeOf36 w, fun w => Try.isAgg36 w, fun w => Try.zeroValue36 w, rfl, (fun h => by first | rfl | cases h), rfl, ⟨_, fun w => Try.runUnderlying36 w, rfl⟩⟩
theorem ty38 : TyOK Try.prog 38 d38 := ⟨fun w => Try.sizeOf38 w, fun w => Try.isAgg38 w, fun w => Try.zeroValue38 w, rfl, (fun h => by first | rfl | cases h), rfl, trivial⟩
theorem ty39 : TyOK Try.prog 39 d39 := ⟨fun w => Try.sizeOf39 w, fun w => Try.isAgg39 w, fun w => Try.zeroValue39 w, rfl, (fun h => by first | rfl | cases h), rfl, trivial⟩
theorem ty40 : TyOK Try.prog 40 d40 := ⟨fun w => Try.sizeOf40 w, fun w => Try.isAgg40 w, fun w => Try.zeroValue40 w, rfl, (fun h => by first | rfl | cases h), rfl, trivial⟩
theorem ty41 : TyOK Try.prog 41 d41 := ⟨fun w => Try.sizeOf41 w, fun w => Try.isAgg41 w, fun w => Try.zeroValue41 w, rfl, (fun h => by first | rfl | cases h), rfl, fun w => Try.runUnderlying41 w⟩
theorem ty42 : TyOK Try.prog 42 d42 := ⟨fun w => Try.sizeOf42 w, fun w => Try.isAgg42 w, fun w => Try.zeroValue42 w, rfl, (fun h => by first | rfl | cases h), rfl, trivial⟩
theorem ty43 : TyOK Try.prog 43 d43 := ⟨fun w => Try.sizeOf43 w, fun w => Try.isAgg43 w, fun w => Try.zeroValue43 w, rfl, (fun h => by first | rfl | cases h), rfl, trivial⟩
theorem ty45 : TyOK Try.prog 45 d45 := ⟨fun w => Try.sizeOf45 w, fun w => Try.isAgg45 w, fun w => Try.zeroValue45 w, rfl, (fun h => by first | rfl | cases h), rfl, trivial⟩
theorem ty46 : TyOK Try.prog 46 d46 := ⟨fun w => Try.sizeOf46 w, fun w => Try.isAgg46 w, fun w => Try.zeroValue46 w, rfl, (fun h => by first | rfl | cases h), rfl, trivial⟩
theorem ty47 : TyOK Try.prog 47 d47 := ⟨fun w => Try.sizeOf47 w, fun w => Try.isAgg47 w, fun w => Try.zeroValue47 w, rfl, (fun h => by first | rfl | cases h), rfl, fun w => Try.runUnderlying47 w⟩
theorem ty49 : TyOK Try.prog 49 d49 := ⟨fun w => Try.sizeOf49 w, fun w => Try.isAgg49 w, fun w => Try.zeroValue49 w, rfl, (fun h => by first | rfl | cases h), rfl, trivial⟩
theorem ty50 : TyOK Try.prog 50 d50 := ⟨fun w => Try.sizeOf50 w, fun w => Try.isAgg50 w, fun w => Try.zeroValue50 w, rfl, (fun h => by first | rfl | cases h), rfl, trivial⟩
theorem ty51 : TyOK Try.prog 51 d51 := ⟨fun w => Try.sizeOf51 w, fun w => Try.isAgg51 w, fun w => Try.zeroValue51 w, rfl, (fun h => by first | rfl | cases h), rfl, trivial⟩
theorem ty52 : TyOK Try.prog 52 d52 := ⟨fun w => Try.sizeOf52 w, fun w => Try.isAgg52 w, fun w => Try.zeroValue52 w, rfl, (fun h => by first | rfl | cases h), rfl, trivial⟩
theorem ty53 : TyOK Try.prog 53 d53 := ⟨fun w => Try.sizeOf53 w, fun w => Try.isAgg53 w, fun w => Try.zeroValue53 w, rfl, (fun h => by first | rfl | cases h), rfl, trivial⟩
theorem ty54 : TyOK Try.prog 54 d54 := ⟨fun w => Try.sizeOf54 w, fun w => Try.isAgg54 w, fun w => Try.zeroValue54 w, rfl, (fun h => by first | rfl | cases h), rfl, ⟨_, fun w => Try.runUnderlying54 w, rfl⟩⟩
theorem ty55 : TyOK Try.prog 55 d55 := ⟨fun w => Try.sizeOf55 w, fun w => Try.isAgg55 w, fun w => Try.zeroValue55 w, rfl, (fun h => by first | rfl | cases h), rfl, ⟨_, fun w => Try.runUnderlying55 w, rfl⟩⟩
theorem ty56 : TyOK Try.prog 56 d56 := ⟨fun w => Try.sizeOf56 w, fun w => Try.isAgg56 w, fun w => Try.zeroValue56 w, rfl, (fun h => by first | rfl | cases h), rfl, trivial⟩
theorem ty57 : TyOK Try.prog 57 d57 := ⟨fun w => Try.sizeOf57 w, fun w => Try.isAgg57 w, fun w => Try.zeroValue57 w, rfl, (fun h => by first | rfl | cases h), rfl, trivial⟩
theorem ty58 : TyOK Try.prog 58 d58 := ⟨fun w => Try.sizeOf58 w, fun w => Try.isAgg58 w, fun w => Try.zeroValue58 w, rfl, (fun h => by first | rfl | cases h), rfl, trivial⟩
theorem ty59 : TyOK Try.prog 59 d59 := ⟨fun w => Try.sizeOf59 w, fun w => Try.isAgg59 w, fun w => Try.zeroValue59 w, rfl, (fun h => by first | rfl | cases h), rfl, trivial⟩
theorem ty61 : TyOK Try.prog 61 d61 := ⟨fun w => Try.sizeOf61 w, fun w => Try.isAgg61 w, fun w => Try.zeroValue61 w, rfl, (fun h => by first | rfl | cases h), rfl, trivial⟩
theorem ty62 : TyOK Try.prog 62 d62 := ⟨fun w => Try.sizeOf62 w, fun w => Try.isAgg62 w, fun w => Try.zeroValue62 w, rfl, (fun h => by first | rfl | cases h), rfl, trivial⟩
theorem ty63 : TyOK Try.prog 63 d63 := ⟨fun w => Try.sizeOf63 w, fun w => Try.isAgg63 w, fun w => Try.zeroValue63 w, rfl, (fun h => by first | rfl | cases h), rfl, trivial⟩
theorem ty64 : TyOK Try.prog 64 d64 := ⟨fun w => Try.sizeOf64 w, fun w => Try.isAgg64 w, fun w => Try.zeroValue64 w, rfl, (fun h => by first | rfl | cases h), rfl, trivial⟩
theorem ty65 : TyOK Try.prog 65 d65 := ⟨fun w => Try.sizeOf65 w, fun w => Try.isAgg65 w, fun w => Try.zeroValue65 w, rfl, (fun h => by first | rfl | cases h), rfl, trivial⟩
theorem ty66 : TyOK Try.prog 66 d66 := ⟨fun w => Try.sizeOf66 w, fun w => Try.isAgg66 w, fun w => Try.zeroValue66 w, rfl, (fun h => by first | rfl | cases h), rfl, trivial⟩
theorem ty67 : TyOK Try.prog 67 d67 := ⟨fun w => Try.sizeOf67 w, fun w => Try.isAgg67 w, fun w => Try.zeroValue67 w, rfl, (fun h => by first | rfl | cases h), rfl, trivial⟩
theorem ty68 : TyOK Try.prog 68 d68 := ⟨fun w => Try.sizeOf68 w, fun w => Try.isAgg68 w, fun w => Try.zeroValue68 w, rfl, (fun h => by first | rfl | cases h), rfl, trivial⟩
theorem ty69 : TyOK Try.prog 69 d69 := ⟨fun w => Try.sizeOf69 w, fun w => Try.isAgg69 w, fun w => Try.zeroValue69 w, rfl, (fun h => by first | rfl | cases h), rfl, trivial⟩
theorem ty70 : TyOK Try.prog 70 d70 := ⟨fun w => Try.sizeOf70 w, fun w => Try.isAgg70 w, fun w => Try.zeroValue70 w, rfl, (fun h => by first | rfl | cases h), rfl, trivial⟩
theorem ty71 : TyOK Try.prog 71 d71 := ⟨fun w => Try.sizeOf71 w, fun w => Try.isAgg71 w, fun w => Try.zeroValue71 w, rfl, (fun h => by first | rfl | cases h), rfl, trivial⟩
theorem ty72 : TyOK Try.prog 72 d72 := ⟨fun w => Try.sizeOf72 w, fun w => Try.isAgg72 w, fun w => Try.zeroValue72 w, rfl, (fun h => by first | rfl | cases h), rfl, trivial⟩
theorem ty73 : TyOK Try.prog 73 d73 := ⟨fun w => Try.sizeOf73 w, fun w => Try.isAgg73 w, fun w => Try.zeroValue73 w, rfl, (fun h => by first | rfl | cases h), rfl, trivial⟩
theorem ty74 : TyOK Try.prog 74 d74 := ⟨fun w => Try.sizeOf74 w, fun w => Try.isAgg74 w, fun w => Try.zeroValue74 w, rfl, (fun h => by first | rfl | cases h), rfl, trivial⟩
theorem ty75 : TyOK Try.prog 75 d75 := ⟨fun w => Try.sizeOf75 w, fun w => Try.isAgg75 w, fun w => Try.zeroValue75 w, rfl, (fun h => by first | rfl | cases h), rfl, trivial⟩
theorem ty76 : TyOK Try.prog 76 d76 := ⟨fun w => Try.sizeOf76 w, fun w => Try.isAgg76 w, fun w => Try.zeroValue76 w, rfl, (fun h => by first | rfl | cases h), rfl, trivial⟩
theorem ty77 : TyOK Try.prog 77 d77 := ⟨fun w => Try.sizeOf77 w, fun w => Try.isAgg77 w, fun w => Try.zeroValue77 w, rfl, (fun h => by first | rfl | cases h), rfl, trivial⟩
theorem ty78 : TyOK Try.prog 78 d78 := ⟨fun w => Try.sizeOf78 w, fun w => Try.isAgg78 w, fun w => Try.zeroValue78 w, rfl, (fun h => by first | rfl | cases h), rfl, trivial⟩
theorem ty79 : TyOK Try.prog 79 d79 := ⟨fun w => Try.sizeOf79 w, fun w => Try.isAgg79 w, fun w => Try.zeroValue79 w, rfl, (fun h => by first | rfl | cases h), rfl, trivial⟩
theorem ty80 : TyOK Try.prog 80 d80 := ⟨fun w => Try.sizeOf80 w, fun w => Try.isAgg80 w, fun w => Try.zeroValue80 w, rfl, (fun h => by first | rfl | cases h), rfl, trivial⟩
theorem ty81 : TyOK Try.prog 81 d81 := ⟨fun w => Try.sizeOf81 w, fun w => Try.isAgg81 w, fun w => Try.zeroValue81 w, rfl, (fun h => by first | rfl | cases h), rfl, trivial⟩
theorem ty82 : TyOK Try.prog 82 d82 := ⟨fun w => Try.sizeOf82 w, fun w => Try.isAgg82 w, fun w => Try.zeroValue82 w, rfl, (fun h => by first | rfl | cases h), rfl, trivial⟩
theorem ty84 : TyOK Try.prog 84 d84 := ⟨fun w => Try.sizeOf84 w, fun w => Try.isAgg84 w, fun w => Try.zeroValue84 w, rfl, (fun h => by first | rfl | cases h), rfl, trivial⟩
theorem ty85 : TyOK Try.prog 85 d85 := ⟨fun w => Try.sizeOf85 w, fun w => Try.isAgg85 w, fun w => Try.zeroValue85 w, rfl, (fun h => by first | rfl | cases h), rfl, trivial⟩
theorem ty86 : TyOK Try.prog 86 d86 := ⟨fun w => Try.sizeOf86 w, fun w => Try.isAgg86 w, fun w => Try.zeroValue86 w, rfl, (fun h => by first | rfl | cases h), rfl, trivial⟩
theorem ty88 : TyOK Try.prog 88 d88 := ⟨fun w => Try.sizeOf88 w, fun w => Try.isAgg88 w, fun w => Try.zeroValue88 w, rfl, (fun h => by first | rfl | cases h), rfl, trivial⟩
theorem ty89 : TyOK Try.prog 89 d89 := ⟨fun w => Try.sizeOf89 w, fun w => Try.isAgg89 w, fun w => Try.zeroValue89 w, rfl, (fun h => by first | rfl | cases h), rfl, trivial⟩
theorem ty90 : TyOK Try.prog 90 d90 := ⟨fun w => Try.sizeOf90 w, fun w => Try.isAgg90 w, fun w => Try.zeroValue90 w, rfl, (fun h => by first | rfl | cases h), rfl, fun w => Try.runUnderlying90 w⟩
theorem ty91 : TyOK Try.prog 91 d91 := ⟨fun w => Try.sizeOf91 w, fun w => Try.isAgg91 w, fun w => Try.zeroValue91 w, rfl, (fun h => by first | rfl | cases h), rfl, trivial⟩
theorem ty92 : TyOK Try.prog 92 d92 := ⟨fun w => Try.sizeOf92 w, fun w => Try.isAgg92 w, fun w => Try.zeroValue92 w, rfl, (fun h => by first | rfl | cases h), rfl, fun w => Try.runUnderlying92 w⟩
theorem ty93 : TyOK Try.prog 93 d93 := ⟨fun w => Try.sizeOf93 w, fun w => Try.isAgg93 w, fun w => Try.zeroValue93 w, rfl, (fun h => by first | rfl | cases h), rfl, fun w => Try.runUnderlying93 w⟩
theorem ty94 : TyOK Try.prog 94 d94 := ⟨fun w => Try.sizeOf94 w, fun w => Try.isAgg94 w, fun w => Try.zeroValue94 w, rfl, (fun h => by first | rfl | cases h), rfl, fun w => Try.runUnderlying94 w⟩
theorem ty95 : TyOK Try.prog 95 d95 := ⟨fun w => Try.sizeOf95 w, fun w => Try.isAgg95 w, fun w => Try.zeroValue95 w, rfl, (fun h => by first | rfl | cases h), rfl, trivial⟩
theorem ty97 : TyOK Try.prog 97 d97 := ⟨fun w => Try.sizeOf97 w, fun w => Try.isAgg97 w, fun w => Try.zeroValue97 w, rfl, (fun h => by first | rfl | cases h), rfl, trivial⟩
theorem ty98 : TyOK Try.prog 98 d98 := ⟨fun w => Try.sizeOf98 w, fun w => Try.isAgg98 w, fun w => Try.zeroValue98 w, rfl, (fun h => by first | rfl | cases h), rfl, trivial⟩
theorem ty99 : TyOK Try.prog 99 d99 := ⟨fun w => Try.sizeOf99 w, fun w => Try.isAgg99 w, fun w => Try.zeroValue99 w, rfl, (fun h => by first | rfl | cases h), rfl, fun w => Try.runUnderlying99 w⟩
theorem ty100 : TyOK Try.prog 100 d100 := ⟨fun w => Try.sizeOf100 w, fun w => Try.isAgg100 w, fun w => Try.zeroValue100 w, rfl, (fun h => by first | rfl | cases h), rfl, trivial⟩
theorem ty101 : TyOK Try.prog 101 d101 := ⟨fun w => Try.sizeOf101 w, fun w => Try.isAgg101 w, fun w => Try.zeroValue101 w, rfl, (fun h => by first | rfl | cases h), rfl, trivial⟩
theorem ty102 : TyOK Try.prog 102 d102 := ⟨fun w => Try.sizeOf102 w, fun w => Try.isAgg102 w, fun w => Try.zeroValue102 w, rfl, (fun h => by first | rfl | cases h), rfl, trivial⟩
theorem ty103 : TyOK Try.prog 103 d103 := ⟨fun w => Try.sizeOf103 w, fun w => Try.isAgg103 w, fun w => Try.zeroValue103 w, rfl, (fun h => by first | rfl | cases h), rfl, trivial⟩
theorem ty104 : TyOK Try.prog 104 d104 := ⟨fun w => Try.sizeOf104 w, fun w => Try.isAgg104 w, fun w => Try.zeroValue104 w, rfl, (fun h => by first | rfl | cases h), rfl, trivial⟩
theorem ty105 : TyOK Try.prog 105 d105 := ⟨fun w => Try.sizeOf105 w, fun w => Try.isAgg105 w, fun w => Try.zeroValue105 w, rfl, (fun h => by first | rfl | cases h), rfl, trivial⟩
theorem ty107 : TyOK Try.prog 107 d107 := ⟨fun w => Try.sizeOf107 w, fun w => Try.isAgg107 w, fun w => Try.zeroValue107 w, rfl, (fun h => by first | rfl | cases h), rfl, fun w => Try.runUnderlying107 w⟩
theorem ty108 : TyOK Try.prog 108 d108 := ⟨fun w => Try.sizeOf108 w, fun w => Try.isAgg108 w, fun w => Try.zeroValue108 w, rfl, (fun h => by first | rfl | cases h), rfl, trivial⟩
theorem ty109 : TyOK Try.prog 109 d109 := ⟨fun w => Try.sizeOf109 w, fun w => Try.isAgg109 w, fun w => Try.zeroValue109 w, rfl, (fun h => by first | rfl | cases h), rfl, fun w => Try.runUnderlying109 w⟩
theorem ty110 : TyOK Try.prog 110 d110 := ⟨fun w => Try.sizeOf110 w, fun w => Try.isAgg110 w, fun w => Try.zeroValue110 w, rfl, (fun h => by first | rfl | cases h), rfl, trivial⟩
theorem ty111 : TyOK Try.prog 111 d111 := ⟨fun w => Try.sizeOf111 w, fun w => Try.isAgg111 w, fun w => Try.zeroValue111 w, rfl, (fun h => by first | rfl | cases h), rfl, ⟨_, fun w => Try.runUnderlying111 w, rfl⟩⟩
theorem ty112 : TyOK Try.prog 112 d112 := ⟨fun w => Try.sizeOf112 w, fun w => Try.isAgg112 w, fun w => Try.zeroValue112 w, rfl, (fun h => by first | rfl | cases h), rfl, ⟨_, fun w => Try.runUnderlying112 w, rfl⟩⟩
theorem ty113 : TyOK Try.prog 113 d113 := ⟨fun w => Try.sizeOf113 w, fun w => Try.isAgg113 w, fun w => Try.zeroValue113 w, rfl, (fun h => by first | rfl | cases h), rfl, trivial⟩
theorem ty114 : TyOK Try.prog 114 d114 := ⟨fun w => Try.sizeOf114 w, fun w => Try.isAgg114 w, fun w => Try.zeroValue114 w, rfl, (fun h => by first | rfl | cases h), rfl, trivial⟩
theorem ty115 : TyOK Try.prog 115 d115 := ⟨fun w => Try.sizeOf115 w, fun w => Try.isAgg115 w, fun w => Try.zeroValue115 w, rfl, (fun h => by first | rfl | cases h), rfl, trivial⟩
theorem ty116 : TyOK Try.prog 116 d116 := ⟨fun w => Try.sizeOf116 w, fun w => Try.isAgg116 w, fun w => Try.zeroValue116 w, rfl, (fun h => by first | rfl | cases h), rfl, trivial⟩
theorem ty117 : TyOK Try.prog 117 d117 := ⟨fun w => Try.sizeOf117 w, fun w => Try.isAgg117 w, fun w => Try.zeroValue117 w, rfl, (fun h => by first | rfl | cases h), rfl, trivial⟩
theorem ty118 : TyOK Try.prog 118 d118 := ⟨fun w => Try.sizeOf118 w, fun w => Try.isAgg118 w, fun w => Try.zeroValue118 w, rfl, (fun h => by first | rfl | cases h), rfl, ⟨_, fun w => Try.runUnderlying118 w, rfl⟩⟩
theorem ty119 : TyOK Try.prog 119 d119 := ⟨fun w => Try.sizeOf119 w, fun w => Try.isAgg119 w, fun w => Try.zeroValue119 w, rfl, (fun h => by first | rfl | cases h), rfl, ⟨_, fun w => Try.runUnderlying119 w, rfl⟩⟩
theorem ty120 : TyOK Try.prog 120 d120 := ⟨fun w => Try.sizeOf120 w, fun w => Try.isAgg120 w, fun w => Try.zeroValue120 w, rfl, (fun h => by first | rfl | cases h), rfl, fun w => Try.runUnderlying120 w⟩
theorem ty123 : TyOK Try.prog 123 d123 := ⟨fun w => Try.sizeOf123 w, fun w => Try.isAgg123 w, fun w => Try.zeroValue123 w, rfl, (fun h => by first | rfl | cases h), rfl, trivial⟩
theorem ty124 : TyOK Try.prog 124 d124 := ⟨fun w => Try.sizeOf124 w, fun w => Try.isAgg124 w, fun w => Try.zeroValue124 w, rfl, (fun h => by first | rfl | cases h), rfl, fun w => Try.runUnderlying124 w⟩
theorem ty125 : TyOK Try.prog 125 d125 := ⟨fun w => Try.sizeOf125 w, fun w => Try.isAgg125 w, fun w => Try.zeroValue125 w, rfl, (fun h => by first | rfl | cases h), rfl, fun w => Try.runUnderlying125 w⟩
theorem ty126 : TyOK Try.prog 126 d126 := ⟨fun w => Try.sizeOf126 w, fun w => Try.isAgg126 w, fun w => Try.zeroValue126 w, rfl, (fun h => by first | rfl | cases h), rfl, fun w => Try.runUnderlying126 w⟩
theorem ty127 : TyOK Try.prog 127 d127 := ⟨fun w => Try.sizeOf127 w, fun w => Try.isAgg127 w, fun w => Try.zeroValue127 w, rfl, (fun h => by first | rfl | cases h), rfl, trivial⟩
theorem ty128 : TyOK Try.prog 128 d128 := ⟨fun w => Try.sizeOf128 w, fun w => Try.isAgg128 w, fun w => Try.zeroValue128 w, rfl, (fun h => by first | rfl | cases h), rfl, trivial⟩
theorem ty129 : TyOK Try.prog 129 d129 := ⟨fun w => Try.sizeOf129 w, fun w => Try.isAgg129 w, fun w => Try.zeroValue129 w, rfl, (fun h => by first | rfl | cases h), rfl, fun w => Try.runUnderlying129 w⟩
theorem ty130 : TyOK Try.prog 130 d130 := ⟨fun w => Try.sizeOf130 w, fun w => Try.isAgg130 w, fun w => Try.zeroValue130 w, rfl, (fun h => by first | rfl | cases h), rfl, fun w => Try.runUnderlying130 w⟩
theorem ty131 : TyOK Try.prog 131 d131 := ⟨fun w => Try.sizeOf131 w, fun w => Try.isAgg131 w, fun w => Try.zeroValue131 w, rfl, (fun h => by first | rfl | cases h), rfl, ⟨_, fun w => Try.runUnderlying131 w, rfl⟩⟩
theorem ty132 : TyOK Try.prog 132 d132 := ⟨fun w => Try.sizeOf132 w, fun w => Try.isAgg132 w, fun w => Try.zeroValue132 w, rfl, (fun h => by first | rfl | cases h), rfl, ⟨_, fun w => Try.runUnderlying132 w, rfl⟩⟩
theorem ty133 : TyOK Try.prog 133 d133 := ⟨fun w => Try.sizeOf133 w, fun w => Try.isAgg133 w, fun w => Try.zeroValue133 w, rfl, (fun h => by first | rfl | cases h), rfl, ⟨_, fun w => Try.runUnderlying133 w, rfl⟩⟩
theorem ty134 : TyOK Try.prog 134 d134 := ⟨fun w => Try.sizeOf134 w, fun w => Try.isAgg134 w, fun w => Try.zeroValue134 w, rfl, (fun h => by first | rfl | cases h), rfl, ⟨_, fun w => Try.runUnderlying134 w, rfl⟩⟩
theorem tfine : Tab.fine Try.prog TT := by
  refine ⟨fun t d h => ?_, fun t d n e h hk => ?_⟩
  · unfold TT at h
    split at h
    · injection h with h; subst h; exact ty1
    · injection h with h; subst h; exact ty2
    · injection h with h; subst h; exact ty3
    · injection h with h; subst h; exact ty4
    · injection h with h; subst h; exact ty5
    · injection h with h; subst h; exact ty6
    · injection h with h; subst h; exact ty7
    · injection h with h; subst h; exact ty8
    · injection h with h; subst h; exact ty9
    · injection h with h; subst h; exact ty10
    · injection h with h; subst h; exact ty11
    · injection h with h; subst h; exact ty12
    · injection h with h; subst h; exact ty13
    · injection h with h; subst h; exact ty14
    · injection h with h; subst h; exact ty15
    · injection h with h; subst h; exact ty16
    · injection h with h; subst h; exact ty17
    · injection h with h; subst h; exact ty18
    · injection h with h; subst h; exact ty19
    · injection h with h; subst h; exact ty20
    · injection h with h; subst h; exact ty21
    · injection h with h; subst h; exact ty22
    · injection h with h; subst h; exact ty23
    · injection h with h; subst h; exact ty24
    · injection h with h; subst h; exact ty25
    · injection h with h; subst h; exact ty26
    · injection h with h; subst h; exact ty27
    · injection h with h; subst h; exact ty28
    · injection h with h; subst h; exact ty29
    · injection h with h; subst h; exact ty30
    · injection h with h; subst h; exact ty31
    · injection h with h; subst h; exact ty33
    · injection h with h; subst h; exact ty34
    · injection h with h; subst h; exact ty35
    · injection h with h; subst h; exact ty36
    · injection h with h; subst h; exact ty38
    · injection h with h; subst h; exact ty39
    · injection h with h; subst h; exact ty40
    · injection h with h; subst h; exact ty41
    · injection h with h; subst h; exact ty42
    · injection h with h; subst h; exact ty43
    · injection h with h; subst h; exact ty45
    · injection h with h; subst h; exact ty46
    · injection h with h; subst h; exact ty47
    · injection h with h; subst h; exact ty49
    · injection h with h; subst h; exact ty50
    · injection h with h; subst h; exact ty51
    · injection h with h; subst h; exact ty52
    · injection h with h; subst h; exact ty53
    · injection h with h; subst h; exact ty54
    · injection h with h; subst h; exact ty55
    · injection h with h; subst h; exact ty56
    · injection h with h; subst h; exact ty57
    · injection h with h; subst h; exact ty58
    · injection h with h; subst h; exact ty59
    · injection h with h; subst h; exact ty61
    · injection h with h; subst h; exact ty62
    · injection h with h; subst h; exact ty63
    · injection h with h; subst h; exact ty64
    · injection h with h; subst h; exact ty65
    · injection h with h; subst h; exact ty66
    · injection h with h; subst h; exact ty67
    · injection h with h; subst h; exact ty68
    · injection h with h; subst h; exact ty69
    · injection h with h; subst h; exact ty70
    · injection h with h; subst h; exact ty71
    · injection h with h; subst h; exact ty72
    · injection h with h; subst h; exact ty73
    · injection h with h; subst h; exact ty74
    · injection h with h; subst h; exact ty75
    · injection h with h; subst h; exact ty76
    · injection h with h; subst h; exact ty77
    · injection h with h; subst h; exact ty78
    · injection h with h; subst h; exact ty79
    · injection h with h; subst h; exact ty80
    · injection h with h; subst h; exact ty81
    · injection h with h; subst h; exact ty82
    · injection h with h; subst h; exact ty84
    · injection h with h; subst h; exact ty85
    · injection h with h; subst h; exact ty86
    · injection h with h; subst h; exact ty88
    · injection h with h; subst h; exact ty89
    · injection h with h; subst h; exact ty90
    · injection h with h; subst h; exact ty91
    · injection h with h; subst h; exact ty92
    · injection h with h; subst h; exact ty93
    · injection h with h; subst h; exact ty94
    · injection h with h; subst h; exact ty95
    · injection h with h; subst h; exact ty97
    · injection h with h; subst h; exact ty98
    · injection h with h; subst h; exact ty99
    · injection h with h; subst h; exact ty100
    · injection h with h; subst h; exact ty101
    · injection h with h; subst h; exact ty102
    · injection h with h; subst h; exact ty103
    · injection h with h; subst h; exact ty104
    · injection h with h; subst h; exact ty105
    · injection h with h; subst h; exact ty107
    · injection h with h; subst h; exact ty108
    · injection h with h; subst h; exact ty109
    · injection h with h; subst h; exact ty110
    · injection h with h; subst h; exact ty111
    · injection h with h; subst h; exact ty112
    · injection h with h; subst h; exact ty113
    · injection h with h; subst h; exact ty114
    · injection h with h; subst h; exact ty115
    · injection h with h; subst h; exact ty116
    · injection h with h; subst h; exact ty117
    · injection h with h; subst h; exact ty118
    · injection h with h; subst h; exact ty119
    · injection h with h; subst h; exact ty120
    · injection h with h; subst h; exact ty123
    · injection h with h; subst h; exact ty124
    · injection h with h; subst h; exact ty125
    · injection h with h; subst h; exact ty126
    · injection h with h; subst h; exact ty127
    · injection h with h; subst h; exact ty128
    · injection h with h; subst h; exact ty129
    · injection h with h; subst h; exact ty130
    · injection h with h; subst h; exact ty131
    · injection h with h; subst h; exact ty132
    · injection h with h; subst h; exact ty133
    · injection h with h; subst h; exact ty134
    · cases h
  · unfold TT at h
    split at h
    · injection h with h; subst h; cases hk
    · injection h with h; subst h; cases hk
    · injection h with h; subst h; cases hk
    · injection h with h; subst h; cases hk
    · injection h with h; subst h; cases hk
    · injection h with h; subst h; cases hk
    · injection h with h; subst h; cases hk
    · injection h with h; subst h; cases hk
    · injection h with h; subst h; cases hk
    · injection h with h; subst h; cases hk
    · injection h with h; subst h; cases hk
    · injection h with h; subst h; cases hk
    · injection h with h; subst h; cases hk
    · injection h with h; subst h; cases hk
    · injection h with h; subst h; cases hk
    · injection h with h; subst h; cases hk
    · injection h with h; subst h; cases hk
    · injection h with h; subst h; cases hk
    · injection h with h; subst h; cases hk
    · injection h with h; subst h; cases hk
    · injection h with h; subst h; cases hk
    · injection h with h; subst h; cases hk
    · injection h with h; subst h; cases hk
    · injection h with h; subst h; cases hk
    · injection h with h; subst h; cases hk
    · injection h with h; subst h; cases hk
    · injection h with h; subst h; cases hk
    · injection h with h; subst h; cases hk
    · injection h with h; subst h; cases hk
    · injection h with h; subst h; cases hk
    · injection h with h; subst h; cases hk
    · injection h with h; subst h; cases hk
    · injection h with h; subst h; cases hk
    · injection h with h; subst h; cases hk
    · injection h with h; subst h; cases hk
    · injection h with h; subst h; cases hk
    · injection h with h; subst h; cases hk
    · injection h with h; subst h; cases hk
    · injection h with h; subst h; injection hk with h1 h2; subst h1; subst h2; exact ⟨d5, rfl, rfl⟩
    · injection h with h; subst h; cases hk
    · injection h with h; subst h; cases hk
    · injection h with h; subst h; cases hk
    · injection h with h; subst h; cases hk
    · injection h with h; subst h; cases hk
    · injection h with h; subst h; cases hk
    · injection h with h; subst h; cases hk
    · injection h with h; subst h; cases hk
    · injection h with h; subst h; cases hk
    · injection h with h; subst h; cases hk
    · injection h with h; subst h; cases hk
    · injection h with h; subst h; cases hk
    · injection h with h; subst h; cases hk
    · injection h with h; subst h; cases hk
    · injection h with h; subst h; cases hk
    · injection h with h; subst h; cases hk
    · injection h with h; subst h; cases hk
    · injection h with h; subst h; cases hk
    · injection h with h; subst h; cases hk
    · injection h with h; subst h; cases hk
    · injection h with h; subst h; cases hk
    · injection h with h; subst h; cases hk
    · injection h with h; subst h; cases hk
    · injection h with h; subst h; cases hk
    · injection h with h; subst h; cases hk
    · injection h with h; subst h; cases hk
    · injection h with h; subst h; cases hk
    · injection h with h; subst h; cases hk
    · injection h with h; subst h; cases hk
    · injection h with h; subst h; cases hk
    · injection h with h; subst h; cases hk
    · injection h with h; subst h; cases hk
    · injection h with h; subst h; cases hk
    · injection h with h; subst h; cases hk
    · injection h with h; subst h; cases hk
    · injection h with h; subst h; cases hk
    · injection h with h; subst h; cases hk
    · injection h with h; subst h; cases hk
    · injection h with h; subst h; cases hk
    · injection h with h; subst h; cases hk
    · injection h with h; subst h; cases hk
    · injection h with h; subst h; cases hk
    · injection h with h; subst h; cases hk
    · injection h with h; subst h; cases hk
    · injection h with h; subst h; cases hk
    · injection h with h; subst h; cases hk
    · injection h with h; subst h; injection hk with h1 h2; subst h1; subst h2; exact ⟨d92, rfl, rfl⟩
    · injection h with h; subst h; injection hk with h1 h2; subst h1; subst h2; exact ⟨d92, rfl, rfl⟩
    · injection h with h; subst h; cases hk
    · injection h with h; subst h; cases hk
    · injection h with h; subst h; cases hk
    · injection h with h; subst h; injection hk with h1 h2; subst h1; subst h2; exact ⟨d63, rfl, rfl⟩
    · injection h with h; subst h; cases hk
    · injection h with h; subst h; cases hk
    · injection h with h; subst h; cases hk
    · injection h with h; subst h; cases hk
    · injection h with h; subst h; cases hk
    · injection h with h; subst h; cases hk
    · injection h with h; subst h; cases hk
    · injection h with h; subst h; cases hk
    · injection h with h; subst h; cases hk
    · injection h with h; subst h; cases hk
    · injection h with h; subst h; cases hk
    · injection h with h; subst h; cases hk
    · injection h with h; subst h; cases hk
    · injection h with h; subst h; cases hk
    · injection h with h; subst h; cases hk
    · injection h with h; subst h; cases hk
    · injection h with h; subst h; cases hk
    · injection h with h; subst h; cases hk
    · injection h with h; subst h; cases hk
    · injection h with h; subst h; injection hk with h1 h2; subst h1; subst h2; exact ⟨d16, rfl, rfl⟩
    · injection h with h; subst h; cases hk
    · injection h with h; subst h; cases hk
    · injection h with h; subst h; cases hk
    · injection h with h; subst h; cases hk
    · injection h with h; subst h; cases hk
    · injection h with h; subst h; cases hk
    · injection h with h; subst h; cases hk
    · injection h with h; subst h; cases hk
    · injection h with h; subst h; cases hk
    · injection h with h; subst h; cases hk
    · injection h with h; subst h; cases hk
    · injection h with h; subst h; cases hk
    · cases h
end Go.Proofs.Ytiicemgngccicaa
