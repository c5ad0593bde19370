/- The table of the types of this seat, as the symbolic executor takes it, with its proof. -/
import Derived.Test.YtbgbndiokckboaaSxI
import Derived.Test.YtbgbndiokckboaaProg
import Derived.KernelRfl
namespace Go.Proofs.Ytbgbndiokckboaa
open Go.Sx

def z1 : List Value := [.nilFunc]
def z2 : List Value := [.int .i64 0]
def z3 : List Value := [.int .i64 0]
def z4 : List Value := [.bool false]
def z5 : List Value := [.int .u8 0]
def z6 : List Value := [.int .u8 0]
def z7 : List Value := [.int .i64 0, .int .i64 0, .bool false, .int .u8 0]
def z8 : List Value := [.int .i64 0, .int .i64 0, .bool false, .int .u8 0]
def z9 : List Value := [.string ⟨#[]⟩]
def z10 : List Value := [.string ⟨#[]⟩]
def z11 : List Value := [.string ⟨#[]⟩]
def z12 : List Value := [.int .u64 0]
def z13 : List Value := [.string ⟨#[]⟩, .int .u64 0]
def z14 : List Value := [.string ⟨#[]⟩, .int .u64 0]
def z15 : List Value := [.pointer none]
def z16 : List Value := [.pointer none]
def z17 : List Value := [.pointer none]
def z18 : List Value := [.pointer none]
def z19 : List Value := [.pointer none]
def z20 : List Value := [.nilIface]
def z21 : List Value := [.int .i32 0]
def z22 : List Value := [.nilFunc]
def z23 : List Value := [.int .i64 0]
def z25 : List Value := [.nilFunc]
def z26 : List Value := [.nilFunc]
def z27 : List Value := [.nilFunc]
def z28 : List Value := (List.replicate 2 (z3)).flatten
def z29 : List Value := [.nilFunc]
def z30 : List Value := [.int .i64 0, .int .i64 0]
def z31 : List Value := [.int .i64 0, .int .i64 0]
def z32 : List Value := (List.replicate 2 (z5)).flatten
def z34 : List Value := [.nilFunc]
def z35 : List Value := [.nilFunc]
def z36 : List Value := [.slice none 0 0]
def z37 : List Value := [.nilFunc]
def z38 : List Value := [.nilFunc]
def z39 : List Value := [.nilFunc]
def z40 : List Value := [.nilFunc]
def z41 : List Value := [.nilFunc]
def z42 : List Value := [.nilFunc]
def z43 : List Value := [.nilFunc]
def z44 : List Value := [.nilFunc]
def z45 : List Value := [.nilFunc]
def z46 : List Value := [.nilFunc]
def z47 : List Value := [.nilFunc]
def z48 : List Value := [.nilFunc]
def z50 : List Value := [.nilFunc]
def z51 : List Value := [.nilFunc]
def z52 : List Value := [.nilFunc]
def z53 : List Value := [.nilFunc]
def z54 : List Value := [.nilFunc]
def z56 : List Value := [.nilFunc]
def z57 : List Value := [.nilFunc]
def z58 : List Value := (List.replicate 5 (z57)).flatten
def z59 : List Value := [.nilFunc]
def z60 : List Value := [.nilFunc]
def z62 : List Value := [.nilFunc]
def z63 : List Value := [.nilFunc]
def z64 : List Value := [.nilFunc]
def z65 : List Value := [.slice none 0 0]
def z66 : List Value := [.nilFunc]
def z67 : List Value := [.int .u64 0]
def z68 : List Value := [.int .u64 0, .int .u64 0]
def z69 : List Value := [.int .u64 0, .int .u64 0]
def z70 : List Value := [.nilFunc]
def z71 : List Value := [.nilFunc]
def z72 : List Value := [.nilFunc]
def z73 : List Value := (List.replicate 2 (z67)).flatten
def z74 : List Value := (List.replicate 2 (z67)).flatten
def z75 : List Value := [.nilFunc]
def z77 : List Value := [.nilFunc]
def z78 : List Value := [.int .u64 0]
def z79 : List Value := [.nilFunc]
def z80 : List Value := [.nilIface]
def z82 : List Value := [.nilFunc]
def z83 : List Value := [.nilFunc]
def z84 : List Value := [.pointer none, .pointer none, .pointer none, .string ⟨#[]⟩]
def z85 : List Value := [.pointer none, .pointer none, .pointer none, .string ⟨#[]⟩]
def z86 : List Value := (List.replicate 0 (z16)).flatten
def z89 : List Value := [.nilFunc]
def z90 : List Value := [.int .u32 0]
def z91 : List Value := [.int .u8 0]
def z92 : List Value := [.int .u8 0]
def z93 : List Value := [.nilFunc]
def z94 : List Value := [.pointer none]
def z95 : List Value := [.int .i32 0]
def z96 : List Value := [.int .i32 0]
def z97 : List Value := [.int .u64 0, .int .u64 0, .int .u32 0, .int .u8 0, .int .u8 0, .int .u8 0, .int .u8 0, .nilFunc, .pointer none, .int .i32 0, .int .i32 0]
def z98 : List Value := [.int .u64 0, .int .u64 0, .int .u32 0, .int .u8 0, .int .u8 0, .int .u8 0, .int .u8 0, .nilFunc, .pointer none, .int .i32 0, .int .i32 0]
def d1 : TyD := ⟨.other, 1, [.nilFunc]⟩
def d2 : TyD := ⟨.int .i64, 1, [.int .i64 0]⟩
def d3 : TyD := ⟨.int .i64, 1, [.int .i64 0]⟩
def d4 : TyD := ⟨.bool, 1, [.bool false]⟩
def d5 : TyD := ⟨.int .u8, 1, [.int .u8 0]⟩
def d6 : TyD := ⟨.int .u8, 1, [.int .u8 0]⟩
def d7 : TyD := ⟨.struct [(0, 2), (1, 3), (2, 4), (3, 6)], 4, [.int .i64 0, .int .i64 0, .bool false, .int .u8 0]⟩
def d8 : TyD := ⟨.struct [(0, 2), (1, 3), (2, 4), (3, 6)], 4, [.int .i64 0, .int .i64 0, .bool false, .int .u8 0]⟩
def d9 : TyD := ⟨.str, 1, [.string ⟨#[]⟩]⟩
def d10 : TyD := ⟨.str, 1, [.string ⟨#[]⟩]⟩
def d11 : TyD := ⟨.str, 1, [.string ⟨#[]⟩]⟩
def d12 : TyD := ⟨.int .u64, 1, [.int .u64 0]⟩
def d13 : TyD := ⟨.struct [(0, 9), (1, 12)], 2, [.string ⟨#[]⟩, .int .u64 0]⟩
def d14 : TyD := ⟨.struct [(0, 9), (1, 12)], 2, [.string ⟨#[]⟩, .int .u64 0]⟩
def d15 : TyD := ⟨.other, 1, [.pointer none]⟩
def d16 : TyD := ⟨.other, 1, [.pointer none]⟩
def d17 : TyD := ⟨.other, 1, [.pointer none]⟩
def d18 : TyD := ⟨.struct [(0, 17)], 1, [.pointer none]⟩
def d19 : TyD := ⟨.struct [(0, 17)], 1, [.pointer none]⟩
def d20 : TyD := ⟨.other, 1, [.nilIface]⟩
def d21 : TyD := ⟨.int .i32, 1, [.int .i32 0]⟩
def d22 : TyD := ⟨.other, 1, [.nilFunc]⟩
def d23 : TyD := ⟨.int .i64, 1, [.int .i64 0]⟩
def d25 : TyD := ⟨.other, 1, [.nilFunc]⟩
def d26 : TyD := ⟨.other, 1, [.nilFunc]⟩
def d27 : TyD := ⟨.other, 1, [.nilFunc]⟩
def d28 : TyD := ⟨.array 2 3, 2, z28⟩
def d29 : TyD := ⟨.other, 1, [.nilFunc]⟩
def d30 : TyD := ⟨.struct [(0, 3), (1, 3)], 2, [.int .i64 0, .int .i64 0]⟩
def d31 : TyD := ⟨.struct [(0, 3), (1, 3)], 2, [.int .i64 0, .int .i64 0]⟩
def d32 : TyD := ⟨.array 2 5, 2, z32⟩
def d34 : TyD := ⟨.other, 1, [.nilFunc]⟩
def d35 : TyD := ⟨.other, 1, [.nilFunc]⟩
def d36 : TyD := ⟨.slice 3, 1, [.slice none 0 0]⟩
def d37 : TyD := ⟨.other, 1, [.nilFunc]⟩
def d38 : TyD := ⟨.other, 1, [.nilFunc]⟩
def d39 : TyD := ⟨.other, 1, [.nilFunc]⟩
def d40 : TyD := ⟨.other, 1, [.nilFunc]⟩
def d41 : TyD := ⟨.other, 1, [.nilFunc]⟩
def d42 : TyD := ⟨.other, 1, [.nilFunc]⟩
def d43 : TyD := ⟨.other, 1, [.nilFunc]⟩
def d44 : TyD := ⟨.other, 1, [.nilFunc]⟩
def d45 : TyD := ⟨.other, 1, [.nilFunc]⟩
def d46 : TyD := ⟨.other, 1, [.nilFunc]⟩
def d47 : TyD := ⟨.other, 1, [.nilFunc]⟩
def d48 : TyD := ⟨.other, 1, [.nilFunc]⟩
def d50 : TyD := ⟨.other, 1, [.nilFunc]⟩
def d51 : TyD := ⟨.other, 1, [.nilFunc]⟩
def d52 : TyD := ⟨.other, 1, [.nilFunc]⟩
def d53 : TyD := ⟨.other, 1, [.nilFunc]⟩
def d54 : TyD := ⟨.other, 1, [.nilFunc]⟩
def d56 : TyD := ⟨.other, 1, [.nilFunc]⟩
def d57 : TyD := ⟨.other, 1, [.nilFunc]⟩
def d58 : TyD := ⟨.array 5 57, 5, z58⟩
def d59 : TyD := ⟨.other, 1, [.nilFunc]⟩
def d60 : TyD := ⟨.other, 1, [.nilFunc]⟩
def d62 : TyD := ⟨.other, 1, [.nilFunc]⟩
def d63 : TyD := ⟨.other, 1, [.nilFunc]⟩
def d64 : TyD := ⟨.other, 1, [.nilFunc]⟩
def d65 : TyD := ⟨.slice 9, 1, [.slice none 0 0]⟩
def d66 : TyD := ⟨.other, 1, [.nilFunc]⟩
def d67 : TyD := ⟨.int .u64, 1, [.int .u64 0]⟩
def d68 : TyD := ⟨.struct [(0, 67), (1, 67)], 2, [.int .u64 0, .int .u64 0]⟩
def d69 : TyD := ⟨.struct [(0, 67), (1, 67)], 2, [.int .u64 0, .int .u64 0]⟩
def d70 : TyD := ⟨.other, 1, [.nilFunc]⟩
def d71 : TyD := ⟨.other, 1, [.nilFunc]⟩
def d72 : TyD := ⟨.other, 1, [.nilFunc]⟩
def d73 : TyD := ⟨.array 2 67, 2, z73⟩
def d74 : TyD := ⟨.array 2 67, 2, z74⟩
def d75 : TyD := ⟨.other, 1, [.nilFunc]⟩
def d77 : TyD := ⟨.other, 1, [.nilFunc]⟩
def d78 : TyD := ⟨.int .u64, 1, [.int .u64 0]⟩
def d79 : TyD := ⟨.other, 1, [.nilFunc]⟩
def d80 : TyD := ⟨.other, 1, [.nilIface]⟩
def d82 : TyD := ⟨.other, 1, [.nilFunc]⟩
def d83 : TyD := ⟨.other, 1, [.nilFunc]⟩
def d84 : TyD := ⟨.struct [(0, 17), (1, 17), (2, 17), (3, 9)], 4, [.pointer none, .pointer none, .pointer none, .string ⟨#[]⟩]⟩
def d85 : TyD := ⟨.struct [(0, 17), (1, 17), (2, 17), (3, 9)], 4, [.pointer none, .pointer none, .pointer none, .string ⟨#[]⟩]⟩
def d86 : TyD := ⟨.array 0 16, 0, z86⟩
def d89 : TyD := ⟨.other, 1, [.nilFunc]⟩
def d90 : TyD := ⟨.int .u32, 1, [.int .u32 0]⟩
def d91 : TyD := ⟨.int .u8, 1, [.int .u8 0]⟩
def d92 : TyD := ⟨.int .u8, 1, [.int .u8 0]⟩
def d93 : TyD := ⟨.other, 1, [.nilFunc]⟩
def d94 : TyD := ⟨.other, 1, [.pointer none]⟩
def d95 : TyD := ⟨.int .i32, 1, [.int .i32 0]⟩
def d96 : TyD := ⟨.int .i32, 1, [.int .i32 0]⟩
def d97 : TyD := ⟨.struct [(0, 12), (1, 12), (2, 90), (3, 91), (4, 5), (5, 5), (6, 92), (7, 93), (8, 94), (9, 95), (10, 96)], 11, [.int .u64 0, .int .u64 0, .int .u32 0, .int .u8 0, .int .u8 0, .int .u8 0, .int .u8 0, .nilFunc, .pointer none, .int .i32 0, .int .i32 0]⟩
def d98 : TyD := ⟨.struct [(0, 12), (1, 12), (2, 90), (3, 91), (4, 5), (5, 5), (6, 92), (7, 93), (8, 94), (9, 95), (10, 96)], 11, [.int .u64 0, .int .u64 0, .int .u32 0, .int .u8 0, .int .u8 0, .int .u8 0, .int .u8 0, .nilFunc, .pointer none, .int .i32 0, .int .i32 0]⟩
def TT : Tab
  | 1 => some d1
  | 2 => some d2
  | 3 => some d3
  | 4 => some d4
  | 5 => some d5
  | 6 => some d6
  | 7 => some d7
  | 8 => some d8
  | 9 => some d9
  | 10 => some d10
  | 11 => some d11
  | 12 => some d12
  | 13 => some d13
  | 14 => some d14
  | 15 => some d15
  | 16 => some d16
  | 17 => some d17
  | 18 => some d18
  | 19 => some d19
  | 20 => some d20
  | 21 => some d21
  | 22 => some d22
  | 23 => some d23
  | 25 => some d25
  | 26 => some d26
  | 27 => some d27
  | 28 => some d28
  | 29 => some d29
  | 30 => some d30
  | 31 => some d31
  | 32 => some d32
  | 34 => some d34
  | 35 => some d35
  | 36 => some d36
  | 37 => some d37
  | 38 => some d38
  | 39 => some d39
  | 40 => some d40
  | 41 => some d41
  | 42 => some d42
  | 43 => some d43
  | 44 => some d44
  | 45 => some d45
  | 46 => some d46
  | 47 => some d47
  | 48 => some d48
  | 50 => some d50
  | 51 => some d51
  | 52 => some d52
  | 53 => some d53
  | 54 => some d54
  | 56 => some d56
  | 57 => some d57
  | 58 => some d58
  | 59 => some d59
  | 60 => some d60
  | 62 => some d62
  | 63 => some d63
  | 64 => some d64
  | 65 => some d65
  | 66 => some d66
  | 67 => some d67
  | 68 => some d68
  | 69 => some d69
  | 70 => some d70
  | 71 => some d71
  | 72 => some d72
  | 73 => some d73
  | 74 => some d74
  | 75 => some d75
  | 77 => some d77
  | 78 => some d78
  | 79 => some d79
  | 80 => some d80
  | 82 => some d82
  | 83 => some d83
  | 84 => some d84
  | 85 => some d85
  | 86 => some d86
  | 89 => some d89
  | 90 => some d90
  | 91 => some d91
  | 92 => some d92
  | 93 => some d93
  | 94 => some d94
  | 95 => some d95
  | 96 => some d96
  | 97 => some d97
  | 98 => some d98
  | _ => none
theorem ty1 : TyOK Try.prog 1 d1 := ⟨fun w => Try.sizeOf1 w, fun w => Try.isAgg1 w, fun w => Try.zeroValue1 w, rfl, (fun h => by first | rfl | cases h), rfl, trivial⟩
theorem ty2 : TyOK Try.prog 2 d2 := ⟨fun w => Try.sizeOf2 w, fun w => Try.isAgg2 w, fun w => Try.zeroValue2 w, rfl, (fun h => by first | rfl | cases h), rfl, fun w => Try.runUnderlying2 w⟩
theorem ty3 : TyOK Try.prog 3 d3 := ⟨fun w => Try.sizeOf3 w, fun w => Try.isAgg3 w, fun w => Try.zeroValue3 w, rfl, (fun h => by first | rfl | cases h), rfl, fun w => Try.runUnderlying3 w⟩
theorem ty4 : TyOK Try.prog 4 d4 := ⟨fun w => Try.sizeOf4 w, fun w => Try.isAgg4 w, fun w => Try.zeroValue4 w, rfl, (fun h => by first | rfl | cases h), rfl, fun w => Try.runUnderlying4 w⟩
theorem ty5 : TyOK Try.prog 5 d5 := ⟨fun w => Try.sizeOf5 w, fun w => Try.isAgg5 w, fun w => Try.zeroValue5 w, rfl, (fun h => by first | rfl | cases h), rfl, fun w => Try.runUnderlying5 w⟩
theorem ty6 : TyOK Try.prog 6 d6 := ⟨fun w => Try.sizeOf6 w, fun w => Try.isAgg6 w, fun w => Try.zeroValue6 w, rfl, (fun h => by first | rfl | cases h), rfl, fun w => Try.runUnderlying6 w⟩
theorem ty7 : TyOK Try.prog 7 d7 := ⟨fun w => Try.sizeOf7 w, fun w => Try.isAgg7 w, fun w => Try.zeroValue7 w, rfl, (fun h => by first | rfl | cases h), rfl, ⟨_, fun w => Try.runUnderlying7 w, rfl⟩⟩
theorem ty8 : TyOK Try.prog 8 d8 := ⟨fun w => Try.sizeOf8 w, fun w => Try.isAgg8 w, fun w => Try.zeroValue8 w, rfl, (fun h => by first | rfl | cases h), rfl, ⟨_, fun w => Try.runUnderlying8 w, rfl⟩⟩
theorem ty9 : TyOK Try.prog 9 d9 := ⟨fun w => Try.sizeOf9 w, fun w => Try.isAgg9 w, fun w => Try.zeroValue9 w, rfl, (fun h => by first | rfl | cases h), rfl, fun w => Try.runUnderlying9 w⟩
theorem ty10 : TyOK Try.prog 10 d10 := ⟨fun w => Try.sizeOf10 w, fun w => Try.isAgg10 w, fun w => Try.zeroValue10 w, rfl, (fun h => by first | rfl | cases h), rfl, fun w => Try.runUnderlying10 w⟩
theorem ty11 : TyOK Try.prog 11 d11 := ⟨fun w => Try.sizeOf11 w, fun w => Try.isAgg11 w, fun w => Try.zeroValue11 w, rfl, (fun h => by first | rfl | cases h), rfl, fun w => Try.runUnderlying11 w⟩
theorem ty12 : TyOK Try.prog 12 d12 := ⟨fun w => Try.sizeOf12 w, fun w => Try.isAgg12 w, fun w => Try.zeroValue12 w, rfl, (fun h => by first | rfl | cases h), rfl, fun w => Try.runUnderlying12 w⟩
theorem ty13 : TyOK Try.prog 13 d13 := ⟨fun w => Try.sizeOf13 w, fun w => Try.isAgg13 w, fun w => Try.zeroValue13 w, rfl, (fun h => by first | rfl | cases h), rfl, ⟨_, fun w => Try.runUnderlying13 w, rfl⟩⟩
theorem ty14 : TyOK Try.prog 14 d14 := ⟨fun w => Try.sizeOf14 w, fun w => Try.isAgg14 w, fun w => Try.zeroValue14 w, rfl, (fun h => by first | rfl | cases h), rfl, ⟨_, fun w => Try.runUnderlying14 w, rfl⟩⟩
theorem ty15 : TyOK Try.prog 15 d15 := ⟨fun w => Try.sizeOf15 w, fun w => Try.isAgg15 w, fun w => Try.zeroValue15 w, rfl, (fun h => by first | rfl | cases h), rfl, trivial⟩
theorem ty16 : TyOK Try.prog 16 d16 := ⟨fun w => Try.sizeOf16 w, fun w => Try.isAgg16 w, fun w => Try.zeroValue16 w, rfl, (fun h => by first | rfl | cases h), rfl, trivial⟩
theorem ty17 : TyOK Try.prog 17 d17 := ⟨fun w => Try.sizeOf17 w, fun w => Try.isAgg17 w, fun w => Try.zeroValue17 w, rfl, (fun h => by first | rfl | cases h), rfl, trivial⟩
theorem ty18 : TyOK Try.prog 18 d18 := ⟨fun w => Try.sizeOf18 w, fun w => Try.isAgg18 w, fun w => Try.zeroValue18 w, rfl, (fun h => by first | rfl | cases h), rfl, ⟨_, fun w => Try.runUnderlying18 w, rfl⟩⟩
theorem ty19 : TyOK Try.prog 19 d19 := ⟨fun w => Try.sizeOf19 w, fun w => Try.isAgg19 w, fun w => Try.zeroValue19 w, rfl, (fun h => by first | rfl | cases h), rfl, ⟨_, fun w => Try.runUnderlying19 w, rfl⟩⟩
theorem ty20 : TyOK Try.prog 20 d20 := ⟨fun w => Try.sizeOf20 w, fun w => Try.isAgg20 w, fun w => Try.zeroValue20 w, rfl, (fun h => by first | rfl | cases h), rfl, trivial⟩
theorem ty21 : TyOK Try.prog 21 d21 := ⟨fun w => Try.sizeOf21 w, fun w => Try.isAgg21 w, fun w => Try.zeroValue21 w, rfl, (fun h => by first | rfl | cases h), rfl, fun w => Try.runUnderlying21 w⟩
theorem ty22 : TyOK Try.prog 22 d22 := ⟨fun w => Try.sizeOf22 w, fun w => Try.isAgg22 w, fun w => Try.zeroValue22 w, rfl, (fun h => by first | rfl | cases h), rfl, trivial⟩
theorem ty23 : TyOK Try.prog 23 d23 := ⟨fun w => Try.sizeOf23 w, fun w => Try.isAgg23 w, fun w => Try.zeroValue23 w, rfl, (fun h => by first | rfl | cases h), rfl, fun w => Try.runUnderlying23 w⟩
theorem ty25 : TyOK Try.prog 25 d25 := ⟨fun w => Try.sizeOf25 w, fun w => Try.isAgg25 w, fun w => Try.zeroValue25 w, rfl, (fun h => by first | rfl | cases h), rfl, trivial⟩
theorem ty26 : TyOK Try.prog 26 d26 := ⟨fun w => Try.sizeOf26 w, fun w => Try.isAgg26 w, fun w => Try.zeroValue26 w, rfl, (fun h => by first | rfl | cases h), rfl, trivial⟩
theorem ty27 : TyOK Try.prog 27 d27 := ⟨fun w => Try.sizeOf27 w, fun w => Try.isAgg27 w, fun w => Try.zeroValue27 w, rfl, (fun h => by first | rfl | cases h), rfl, trivial⟩
theorem ty28 : TyOK Try.prog 28 d28 := ⟨fun w => Try.sizeOf28 w, fun w => Try.isAgg28 w, fun w => Try.zeroValue28 w, rfl, (fun h => by first | rfl | cases h), rfl, fun w => Try.runUnderlying28 w⟩
theorem ty29 : TyOK Try.prog 29 d29 := ⟨fun w => Try.sizeOf29 w, fun w => Try.isAgg29 w, fun w => Try.zeroValue29 w, rfl, (fun h => by first | rfl | cases h), rfl, trivial⟩
theorem ty30 : TyOK Try.prog 30 d30 := ⟨fun w => Try.sizeOf30 w, fun w => Try.isAgg30 w, fun w => Try.zeroValue30 w, rfl, (fun h => by first | rfl | cases h), rfl, ⟨_, fun w => Try.runUnderlying30 w, rfl⟩⟩
theorem ty31 : TyOK Try.prog 31 d31 := ⟨fun w => Try.sizeOf31 w, fun w => Try.isAgg31 w, fun w => Try.zeroValue31 w, rfl, (fun h => by first | rfl | cases h), rfl, ⟨_, fun w => Try.runUnderlying31 w, rfl⟩⟩
theorem ty32 : TyOK Try.prog 32 d32 := ⟨fun w => Try.sizeOf32 w, fun w => Try.isAgg32 w, fun w => Try.zeroValue32 w, rfl, (fun h => by first | rfl | cases h), rfl, fun w => Try.runUnderlying32 w⟩
theorem ty34 : TyOK Try.prog 34 d34 := ⟨fun w => Try.sizeOf34 w, fun w => Try.isAgg34 w, fun w => Try.zeroValue34 w, rfl, (fun h => by first | rfl | cases h), rfl, trivial⟩
theorem ty35 : TyOK Try.prog 35 d35 := ⟨fun w => Try.sizeOf35 w, fun w => Try.isAgg35 w, fun w => Try.zeroValue35 w, rfl, (fun h => by first | rfl | cases h), rfl, trivial⟩
theorem ty36 : TyOK Try.prog 36 d36 := ⟨fun w => Try.sizeOf36 w, fun w => Try.isAgg36 w, fun w => Try.zeroValue36 w, rfl, (fun h => by first | rfl | cases h), rfl, fun w => Try.runUnderlying36 w⟩
theorem ty37 : TyOK Try.prog 37 d37 := ⟨fun w => Try.sizeOf37 w, fun w => Try.isAgg37 w, fun w => Try.zeroValue37 w, rfl, (fun h => by first | rfl | cases h), rfl, trivial⟩
theorem ty38 : TyOK Try.prog 38 d38 := ⟨fun w => Try.sizeOf38 w, fun w => Try.isAgg38 w, fun w => Try.zeroValue38 w, rfl, (fun h => by first | rfl | cases h), rfl, trivial⟩
theorem ty39 : TyOK Try.prog 39 d39 := ⟨fun w => Try.sizeOf39 w, fun w => Try.isAgg39 w, fun w => Try.zeroValue39 w, rfl, (fun h => by first | rfl | cases h), rfl, trivial⟩
theorem ty40 : TyOK Try.prog 40 d40 := ⟨fun w => Try.sizeOf40 w, fun w => Try.isAgg40 w, fun w => Try.zeroValue40 w, rfl, (fun h => by first | rfl | cases h), rfl, trivial⟩
theorem ty41 : TyOK Try.prog 41 d41 := ⟨fun w => Try.sizeOf41 w, fun w => Try.isAgg41 w, fun w => Try.zeroValue41 w, rfl, (fun h => by first | rfl | cases h), rfl, trivial⟩
theorem ty42 : TyOK Try.prog 42 d42 := ⟨fun w => Try.sizeOf42 w, fun w => Try.isAgg42 w, fun w => Try.zeroValue42 w, rfl, (fun h => by first | rfl | cases h), rfl, trivial⟩
theorem ty43 : TyOK Try.prog 43 d43 := ⟨fun w => Try.sizeOf43 w, fun w => Try.isAgg43 w, fun w => Try.zeroValue43 w, rfl, (fun h => by first | rfl | cases h), rfl, trivial⟩
theorem ty44 : TyOK Try.prog 44 d44 := ⟨fun w => Try.sizeOf44 w, fun w => Try.isAgg44 w, fun w => Try.zeroValue44 w, rfl, (fun h => by first | rfl | cases h), rfl, trivial⟩
theorem ty45 : TyOK Try.prog 45 d45 := ⟨fun w => Try.sizeOf45 w, fun w => Try.isAgg45 w, fun w => Try.zeroValue45 w, rfl, (fun h => by first | rfl | cases h), rfl, trivial⟩
theorem ty46 : TyOK Try.prog 46 d46 := ⟨fun w => Try.sizeOf46 w, fun w => Try.isAgg46 w, fun w => Try.zeroValue46 w, rfl, (fun h => by first | rfl | cases h), rfl, trivial⟩
theorem ty47 : TyOK Try.prog 47 d47 := ⟨fun w => Try.sizeOf47 w, fun w => Try.isAgg47 w, fun w => Try.zeroValue47 w, rfl, (fun h => by first | rfl | cases h), rfl, trivial⟩
theorem ty48 : TyOK Try.prog 48 d48 := ⟨fun w => Try.sizeOf48 w, fun w => Try.isAgg48 w, fun w => Try.zeroValue48 w, rfl, (fun h => by first | rfl | cases h), rfl, trivial⟩
theorem ty50 : TyOK Try.prog 50 d50 := ⟨fun w => Try.sizeOf50 w, fun w => Try.isAgg50 w, fun w => Try.zeroValue50 w, rfl, (fun h => by first | rfl | cases h), rfl, trivial⟩
theorem ty51 : TyOK Try.prog 51 d51 := ⟨fun w => Try.sizeOf51 w, fun w => Try.isAgg51 w, fun w => Try.zeroValue51 w, rfl, (fun h => by first | rfl | cases h), rfl, trivial⟩
theorem ty52 : TyOK Try.prog 52 d52 := ⟨fun w => Try.sizeOf52 w, fun w => Try.isAgg52 w, fun w => Try.zeroValue52 w, rfl, (fun h => by first | rfl | cases h), rfl, trivial⟩
theorem ty53 : TyOK Try.prog 53 d53 := ⟨fun w => Try.sizeOf53 w, fun w => Try.isAgg53 w, fun w => Try.zeroValue53 w, rfl, (fun h => by first | rfl | cases h), rfl, trivial⟩
theorem ty54 : TyOK Try.prog 54 d54 := ⟨fun w => Try.sizeOf54 w, fun w => Try.isAgg54 w, fun w => Try.zeroValue54 w, rfl, (fun h => by first | rfl | cases h), rfl, trivial⟩
theorem ty56 : TyOK Try.prog 56 d56 := ⟨fun w => Try.sizeOf56 w, fun w => Try.isAgg56 w, fun w => Try.zeroValue56 w, rfl, (fun h => by first | rfl | cases h), rfl, trivial⟩
theorem ty57 : TyOK Try.prog 57 d57 := ⟨fun w => Try.sizeOf57 w, fun w => Try.isAgg57 w, fun w => Try.zeroValue57 w, rfl, (fun h => by first | rfl | cases h), rfl, trivial⟩
theorem ty58 : TyOK Try.prog 58 d58 := ⟨fun w => Try.sizeOf58 w, fun w => Try.isAgg58 w, fun w => Try.zeroValue58 w, rfl, (fun h => by first | rfl | cases h), rfl, fun w => Try.runUnderlying58 w⟩
theorem ty59 : TyOK Try.prog 59 d59 := ⟨fun w => Try.sizeOf59 w, fun w => Try.isAgg59 w, fun w => Try.zeroValue59 w, rfl, (fun h => by first | rfl | cases h), rfl, trivial⟩
theorem ty60 : TyOK Try.prog 60 d60 := ⟨fun w => Try.sizeOf60 w, fun w => Try.isAgg60 w, fun w => Try.zeroValue60 w, rfl, (fun h => by first | rfl | cases h), rfl, trivial⟩
theorem ty62 : TyOK Try.prog 62 d62 := ⟨fun w => Try.sizeOf62 w, fun w => Try.isAgg62 w, fun w => Try.zeroValue62 w, rfl, (fun h => by first | rfl | cases h), rfl, trivial⟩
theorem ty63 : TyOK Try.prog 63 d63 := ⟨fun w => Try.sizeOf63 w, fun w => Try.isAgg63 w, fun w => Try.zeroValue63 w, rfl, (fun h => by first | rfl | cases h), rfl, trivial⟩
theorem ty64 : TyOK Try.prog 64 d64 := ⟨fun w => Try.sizeOf64 w, fun w => Try.isAgg64 w, fun w => Try.zeroValue64 w, rfl, (fun h => by first | rfl | cases h), rfl, trivial⟩
theorem ty65 : TyOK Try.prog 65 d65 := ⟨fun w => Try.sizeOf65 w, fun w => Try.isAgg65 w, fun w => Try.zeroValue65 w, rfl, (fun h => by first | rfl | cases h), rfl, fun w => Try.runUnderlying65 w⟩
theorem ty66 : TyOK Try.prog 66 d66 := ⟨fun w => Try.sizeOf66 w, fun w => Try.isAgg66 w, fun w => Try.zeroValue66 w, rfl, (fun h => by first | rfl | cases h), rfl, trivial⟩
theorem ty67 : TyOK Try.prog 67 d67 := ⟨fun w => Try.sizeOf67 w, fun w => Try.isAgg67 w, fun w => Try.zeroValue67 w, rfl, (fun h => by first | rfl | cases h), rfl, fun w => Try.runUnderlying67 w⟩
theorem ty68 : TyOK Try.prog 68 d68 := ⟨fun w => Try.sizeOf68 w, fun w => Try.isAgg68 w, fun w => Try.zeroValue68 w, rfl, (fun h => by first | rfl | cases h), rfl, ⟨_, fun w => Try.runUnderlying68 w, rfl⟩⟩
theorem ty69 : TyOK Try.prog 69 d69 := ⟨fun w => Try.sizeOf69 w, fun w => Try.isAgg69 w, fun w => Try.zeroValue69 w, rfl, (fun h => by first | rfl | cases h), rfl, ⟨_, fun w => Try.runUnderlying69 w, rfl⟩⟩
theorem ty70 : TyOK Try.prog 70 d70 := ⟨fun w => Try.sizeOf70 w, fun w => Try.isAgg70 w, fun w => Try.zeroValue70 w, rfl, (fun h => by first | rfl | cases h), rfl, trivial⟩
theorem ty71 : TyOK Try.prog 71 d71 := ⟨fun w => Try.sizeOf71 w, fun w => Try.isAgg71 w, fun w => Try.zeroValue71 w, rfl, (fun h => by first | rfl | cases h), rfl, trivial⟩
theorem ty72 : TyOK Try.prog 72 d72 := ⟨fun w => Try.sizeOf72 w, fun w => Try.isAgg72 w, fun w => Try.zeroValue72 w, rfl, (fun h => by first | rfl | cases h), rfl, trivial⟩
theorem ty73 : TyOK Try.prog 73 d73 := ⟨fun w => Try.sizeOf73 w, fun w => Try.isAgg73 w, fun w => Try.zeroValue73 w, rfl, (fun h => by first | rfl | cases h), rfl, fun w => Try.runUnderlying73 w⟩
theorem ty74 : TyOK Try.prog 74 d74 := ⟨fun w => Try.sizeOf74 w, fun w => Try.isAgg74 w, fun w => Try.zeroValue74 w, rfl, (fun h => by first | rfl | cases h), rfl, fun w => Try.runUnderlying74 w⟩
theorem ty75 : TyOK Try.prog 75 d75 := ⟨fun w => Try.sizeOf75 w, fun w => Try.isAgg75 w, fun w => Try.zeroValue75 w, rfl, (fun h => by first | rfl | cases h), rfl, trivial⟩
theorem ty77 : TyOK Try.prog 77 d77 := ⟨fun w => Try.sizeOf77 w, fun w => Try.isAgg77 w, fun w => Try.zeroValue77 w, rfl, (fun h => by first | rfl | cases h), rfl, trivial⟩
theorem ty78 : TyOK Try.prog 78 d78 := ⟨fun w => Try.sizeOf78 w, fun w => Try.isAgg78 w, fun w => Try.zeroValue78 w, rfl, (fun h => by first | rfl | cases h), rfl, fun w => Try.runUnderlying78 w⟩
theorem ty79 : TyOK Try.prog 79 d79 := ⟨fun w => Try.sizeOf79 w, fun w => Try.isAgg79 w, fun w => Try.zeroValue79 w, rfl, (fun h => by first | rfl | cases h), rfl, trivial⟩
theorem ty80 : TyOK Try.prog 80 d80 := ⟨fun w => Try.sizeOf80 w, fun w => Try.isAgg80 w, fun w => Try.zeroValue80 w, rfl, (fun h => by first | rfl | cases h), rfl, trivial⟩
theorem ty82 : TyOK Try.prog 82 d82 := ⟨fun w => Try.sizeOf82 w, fun w => Try.isAgg82 w, fun w => Try.zeroValue82 w, rfl, (fun h => by first | rfl | cases h), rfl, trivial⟩
theorem ty83 : TyOK Try.prog 83 d83 := ⟨fun w => Try.sizeOf83 w, fun w => Try.isAgg83 w, fun w => Try.zeroValue83 w, rfl, (fun h => by first | rfl | cases h), rfl, trivial⟩
theorem ty84 : TyOK Try.prog 84 d84 := ⟨fun w => Try.sizeOf84 w, fun w => Try.isAgg84 w, fun w => Try.zeroValue84 w, rfl, (fun h => by first | rfl | cases h), rfl, ⟨_, fun w => Try.runUnderlying84 w, rfl⟩⟩
theorem ty85 : TyOK Try.prog 85 d85 := ⟨fun w => Try.sizeOf85 w, fun w => Try.isAgg85 w, fun w => Try.zeroValue85 w, rfl, (fun h => by first | rfl | cases h), rfl, ⟨_, fun w => Try.runUnderlying85 w, rfl⟩⟩
theorem ty86 : TyOK Try.prog 86 d86 := ⟨fun w => Try.sizeOf86 w, fun w => Try.isAgg86 w, fun w => Try.zeroValue86 w, rfl, (fun h => by first | rfl | cases h), rfl, fun w => Try.runUnderlying86 w⟩
theorem ty89 : TyOK Try.prog 89 d89 := ⟨fun w => Try.sizeOf89 w, fun w => Try.isAgg89 w, fun w => Try.zeroValue89 w, rfl, (fun h => by first | rfl | cases h), rfl, trivial⟩
theorem ty90 : TyOK Try.prog 90 d90 := ⟨fun w => Try.sizeOf90 w, fun w => Try.isAgg90 w, fun w => Try.zeroValue90 w, rfl, (fun h => by first | rfl | cases h), rfl, fun w => Try.runUnderlying90 w⟩
theorem ty91 : TyOK Try.prog 91 d91 := ⟨fun w => Try.sizeOf91 w, fun w => Try.isAgg91 w, fun w => Try.zeroValue91 w, rfl, (fun h => by first | rfl | cases h), rfl, fun w => Try.runUnderlying91 w⟩
theorem ty92 : TyOK Try.prog 92 d92 := ⟨fun w => Try.sizeOf92 w, fun w => Try.isAgg92 w, fun w => Try.zeroValue92 w, rfl, (fun h => by first | rfl | cases h), rfl, fun w => Try.runUnderlying92 w⟩
theorem ty93 : TyOK Try.prog 93 d93 := ⟨fun w => Try.sizeOf93 w, fun w => Try.isAgg93 w, fun w => Try.zeroValue93 w, rfl, (fun h => by first | rfl | cases h), rfl, trivial⟩
theorem ty94 : TyOK Try.prog 94 d94 := ⟨fun w => Try.sizeOf94 w, fun w => Try.isAgg94 w, fun w => Try.zeroValue94 w, rfl, (fun h => by first | rfl | cases h), rfl, trivial⟩
theorem ty95 : TyOK Try.prog 95 d95 := ⟨fun w => Try.sizeOf95 w, fun w => Try.isAgg95 w, fun w => Try.zeroValue95 w, rfl, (fun h => by first | rfl | cases h), rfl, fun w => Try.runUnderlying95 w⟩
theorem ty96 : TyOK Try.prog 96 d96 := ⟨fun w => Try.sizeOf96 w, fun w => Try.isAgg96 w, fun w => Try.zeroValue96 w, rfl, (fun h => by first | rfl | cases h), rfl, fun w => Try.runUnderlying96 w⟩
theorem ty97 : TyOK Try.prog 97 d97 := ⟨fun w => Try.sizeOf97 w, fun w => Try.isAgg97 w, fun w => Try.zeroValue97 w, rfl, (fun h => by first | rfl | cases h), rfl, ⟨_, fun w => Try.runUnderlying97 w, rfl⟩⟩
theorem ty98 : TyOK Try.prog 98 d98 := ⟨fun w => Try.sizeOf98 w, fun w => Try.isAgg98 w, fun w => Try.zeroValue98 w, rfl, (fun h => by first | rfl | cases h), rfl, ⟨_, fun w => Try.runUnderlying98 w, rfl⟩⟩
theorem tfine : Tab.fine Try.prog TT := by
  refine ⟨fun t d h => ?_, fun t d n e h hk => ?_⟩
  · unfold TT at h
    split at h
    · injection h with h; subst h; exact ty1
    · injection h with h; subst h; exact ty2
    · injection h with h; subst h; exact ty3
    · injection h with h; subst h; exact ty4
    · injection h with h; subst h; exact ty5
    · injection h with h; subst h; exact ty6
    · injection h with h; subst h; exact ty7
    · injection h with h; subst h; exact ty8
    · injection h with h; subst h; exact ty9
    · injection h with h; subst h; exact ty10
    · injection h with h; subst h; exact ty11
    · injection h with h; subst h; exact ty12
    · injection h with h; subst h; exact ty13
    · injection h with h; subst h; exact ty14
    · injection h with h; subst h; exact ty15
    · injection h with h; subst h; exact ty16
    · injection h with h; subst h; exact ty17
    · injection h with h; subst h; exact ty18
    · injection h with h; subst h; exact ty19
    · injection h with h; subst h; exact ty20
    · injection h with h; subst h; exact ty21
    · injection h with h; subst h; exact ty22
    · injection h with h; subst h; exact ty23
    · injection h with h; subst h; exact ty25
    · injection h with h; subst h; exact ty26
    · injection h with h; subst h; exact ty27
    · injection h with h; subst h; exact ty28
    · injection h with h; subst h; exact ty29
    · injection h with h; subst h; exact ty30
    · injection h with h; subst h; exact ty31
    · injection h with h; subst h; exact ty32
    · injection h with h; subst h; exact ty34
    · injection h with h; subst h; exact ty35
    · injection h with h; subst h; exact ty36
    · injection h with h; subst h; exact ty37
    · injection h with h; subst h; exact ty38
    · injection h with h; subst h; exact ty39
    · injection h with h; subst h; exact ty40
    · injection h with h; subst h; exact ty41
    · injection h with h; subst h; exact ty42
    · injection h with h; subst h; exact ty43
    · injection h with h; subst h; exact ty44
    · injection h with h; subst h; exact ty45
    · injection h with h; subst h; exact ty46
    · injection h with h; subst h; exact ty47
    · injection h with h; subst h; exact ty48
    · injection h with h; subst h; exact ty50
    · injection h with h; subst h; exact ty51
    · injection h with h; subst h; exact ty52
    · injection h with h; subst h; exact ty53
    · injection h with h; subst h; exact ty54
    · injection h with h; subst h; exact ty56
    · injection h with h; subst h; exact ty57
    · injection h with h; subst h; exact ty58
    · injection h with h; subst h; exact ty59
    · injection h with h; subst h; exact ty60
    · injection h with h; subst h; exact ty62
    · injection h with h; subst h; exact ty63
    · injection h with h; subst h; exact ty64
    · injection h with h; subst h; exact ty65
    · injection h with h; subst h; exact ty66
    · injection h with h; subst h; exact ty67
    · injection h with h; subst h; exact ty68
    · injection h with h; subst h; exact ty69
    · injection h with h; subst h; exact ty70
    · injection h with h; subst h; exact ty71
    · injection h with h; subst h; exact ty72
    · injection h with h; subst h; exact ty73
    · injection h with h; subst h; exact ty74
    · injection h with h; subst h; exact ty75
    · injection h with h; subst h; exact ty77
    · injection h with h; subst h; exact ty78
    · injection h with h; subst h; exact ty79
    · injection h with h; subst h; exact ty80
    · injection h with h; subst h; exact ty82
    · injection h with h; subst h; exact ty83
    · injection h with h; subst h; exact ty84
    · injection h with h; subst h; exact ty85
    · injection h with h; subst h; exact ty86
    · injection h with h; subst h; exact ty89
    · injection h with h; subst h; exact ty90
    · injection h with h; subst h; exact ty91
    · injection h with h; subst h; exact ty92
    · injection h with h; subst h; exact ty93
    · injection h with h; subst h; exact ty94
    · injection h with h; subst h; exact ty95
    · injection h with h; subst h; exact ty96
    · injection h with h; subst h; exact ty97
    · injection h with h; subst h; exact ty98
    · cases h
  · unfold TT at h
    split at h
    · injection h with h; subst h; cases hk
    · injection h with h; subst h; cases hk
    · injection h with h; subst h; cases hk
    · injection h with h; subst h; cases hk
    · injection h with h; subst h; cases hk
    · injection h with h; subst h; cases hk
    · injection h with h; subst h; cases hk
    · injection h with h; subst h; cases hk
    · injection h with h; subst h; cases hk
    · injection h with h; subst h; cases hk
    · injection h with h; subst h; cases hk
    · injection h with h; subst h; cases hk
    · injection h with h; subst h; cases hk
    · injection h with h; subst h; cases hk
    · injection h with h; subst h; cases hk
    · injection h with h; subst h; cases hk
    · injection h with h; subst h; cases hk
    · injection h with h; subst h; cases hk
    · injection h with h; subst h; cases hk
    · injection h with h; subst h; cases hk
    · injection h with h; subst h; cases hk
    · injection h with h; subst h; cases hk
    · injection h with h; subst h; cases hk
    · injection h with h; subst h; cases hk
    · injection h with h; subst h; cases hk
    · injection h with h; subst h; cases hk
    · injection h with h; subst h; injection hk with h1 h2; subst h1; subst h2; exact ⟨d3, rfl, rfl⟩
    · injection h with h; subst h; cases hk
    · injection h with h; subst h; cases hk
    · injection h with h; subst h; cases hk
    · injection h with h; subst h; injection hk with h1 h2; subst h1; subst h2; exact ⟨d5, rfl, rfl⟩
    · injection h with h; subst h; cases hk
    · injection h with h; subst h; cases hk
    · injection h with h; subst h; cases hk
    · injection h with h; subst h; cases hk
    · injection h with h; subst h; cases hk
    · injection h with h; subst h; cases hk
    · injection h with h; subst h; cases hk
    · injection h with h; subst h; cases hk
    · injection h with h; subst h; cases hk
    · injection h with h; subst h; cases hk
    · injection h with h; subst h; cases hk
    · injection h with h; subst h; cases hk
    · injection h with h; subst h; cases hk
    · injection h with h; subst h; cases hk
    · injection h with h; subst h; cases hk
    · injection h with h; subst h; cases hk
    · injection h with h; subst h; cases hk
    · injection h with h; subst h; cases hk
    · injection h with h; subst h; cases hk
    · injection h with h; subst h; cases hk
    · injection h with h; subst h; cases hk
    · injection h with h; subst h; cases hk
    · injection h with h; subst h; injection hk with h1 h2; subst h1; subst h2; exact ⟨d57, rfl, rfl⟩
    · injection h with h; subst h; cases hk
    · injection h with h; subst h; cases hk
    · injection h with h; subst h; cases hk
    · injection h with h; subst h; cases hk
    · injection h with h; subst h; cases hk
    · injection h with h; subst h; cases hk
    · injection h with h; subst h; cases hk
    · injection h with h; subst h; cases hk
    · injection h with h; subst h; cases hk
    · injection h with h; subst h; cases hk
    · injection h with h; subst h; cases hk
    · injection h with h; subst h; cases hk
    · injection h with h; subst h; cases hk
    · injection h with h; subst h; injection hk with h1 h2; subst h1; subst h2; exact ⟨d67, rfl, rfl⟩
    · injection h with h; subst h; injection hk with h1 h2; subst h1; subst h2; exact ⟨d67, rfl, rfl⟩
    · injection h with h; subst h; cases hk
    · injection h with h; subst h; cases hk
    · injection h with h; subst h; cases hk
    · injection h with h; subst h; cases hk
    · injection h with h; subst h; cases hk
    · injection h with h; subst h; cases hk
    · injection h with h; subst h; cases hk
    · injection h with h; subst h; cases hk
    · injection h with h; subst h; cases hk
    · injection h with h; subst h; injection hk with h1 h2; subst h1; subst h2; exact ⟨d16, rfl, rfl⟩
    · injection h with h; subst h; cases hk
    · injection h with h; subst h; cases hk
    · injection h with h; subst h; cases hk
    · injection h with h; subst h; cases hk
    · injection h with h; subst h; cases hk
    · injection h with h; subst h; cases hk
    · injection h with h; subst h; cases hk
    · injection h with h; subst h; cases hk
    · injection h with h; subst h; cases hk
    · injection h with h; subst h; cases hk
    · cases h
end Go.Proofs.Ytbgbndiokckboaa
