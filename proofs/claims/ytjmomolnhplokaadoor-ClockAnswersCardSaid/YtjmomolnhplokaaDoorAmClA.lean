/-
  ClockAnswers, part A: the types of the program, and how data are written as abstract values.
-/
import Derived.Test.YtjmomolnhplokaaDoorAmX
import Derived.Test.YtjmomolnhplokaaDoorProg
import Derived.KernelRfl
namespace Go.Am.Cl
open Go Go.Am Go.Proofs
set_option maxRecDepth 100000
set_option linter.unusedSimpArgs false
set_option linter.unusedVariables false
theorem mixed : Tryd.prog.follows .mixedOrders = true := by kernel_rfl
structure Clock where
  kind : Int
  par : List Int
  cho : List Int
  low : Int
  high : Int
instance : Inhabited Clock := ⟨⟨0, [], [], 0, 0⟩⟩
structure Limit where
  clock : Int
  low : Int
  high : Int
instance : Inhabited Limit := ⟨⟨0, 0, 0⟩⟩
structure Rate where
  num : Int
  den : Int
  deriving DecidableEq
instance : Inhabited Rate := ⟨⟨0, 0⟩⟩
def encC (c : Clock) : List AV := [int c.kind, ints true c.par, ints true c.cho, int c.low, int c.high]
def encL (c : Limit) : List AV := [int c.clock, int c.low, int c.high]
def encR (c : Rate) : List AV := [int c.num, int c.den]
attribute [go_sem] encC encL encR
theorem ty0 : tyOf Tryd.prog 0 = some { size := 1, bytes := 0, zero := [Value.tuple { toList := [] }], kind := TK.other } := by kernel_rfl
theorem tk0 : tkOf Tryd.prog 0 = TK.other := by kernel_rfl
theorem ty1 : tyOf Tryd.prog 1 = some { size := 1, bytes := 8, zero := [Value.nilFunc], kind := TK.func } := by kernel_rfl
theorem tk1 : tkOf Tryd.prog 1 = TK.func := by kernel_rfl
theorem ty2 : tyOf Tryd.prog 2 = some { size := 1, bytes := 8, zero := [Value.int IntKind.i64 0], kind := TK.int IntKind.i64 } := by kernel_rfl
theorem tk2 : tkOf Tryd.prog 2 = TK.int IntKind.i64 := by kernel_rfl
theorem ty3 : tyOf Tryd.prog 3 = some { size := 1, bytes := 8, zero := [Value.int IntKind.i64 0], kind := TK.int IntKind.i64 } := by kernel_rfl
theorem tk3 : tkOf Tryd.prog 3 = TK.int IntKind.i64 := by kernel_rfl
theorem ty4 : tyOf Tryd.prog 4 = some { size := 1, bytes := 1, zero := [Value.bool false], kind := TK.bool } := by kernel_rfl
theorem tk4 : tkOf Tryd.prog 4 = TK.bool := by kernel_rfl
theorem ty5 : tyOf Tryd.prog 5 = some { size := 1, bytes := 1, zero := [Value.int IntKind.u8 0], kind := TK.int IntKind.u8 } := by kernel_rfl
theorem tk5 : tkOf Tryd.prog 5 = TK.int IntKind.u8 := by kernel_rfl
theorem ty6 : tyOf Tryd.prog 6 = some { size := 1, bytes := 1, zero := [Value.int IntKind.u8 0], kind := TK.int IntKind.u8 } := by kernel_rfl
theorem tk6 : tkOf Tryd.prog 6 = TK.int IntKind.u8 := by kernel_rfl
theorem ty7 : tyOf Tryd.prog 7 = some { size := 4, bytes := 24, zero := [Value.int IntKind.i64 0, Value.int IntKind.i64 0, Value.bool false, Value.int IntKind.u8 0], kind := TK.struct [(0, 2), (1, 3), (2, 4), (3, 6)] true } := by kernel_rfl
theorem tk7 : tkOf Tryd.prog 7 = TK.struct [(0, 2), (1, 3), (2, 4), (3, 6)] true := by kernel_rfl
theorem ty8 : tyOf Tryd.prog 8 = some { size := 4, bytes := 24, zero := [Value.int IntKind.i64 0, Value.int IntKind.i64 0, Value.bool false, Value.int IntKind.u8 0], kind := TK.struct [(0, 2), (1, 3), (2, 4), (3, 6)] true } := by kernel_rfl
theorem tk8 : tkOf Tryd.prog 8 = TK.struct [(0, 2), (1, 3), (2, 4), (3, 6)] true := by kernel_rfl
theorem ty9 : tyOf Tryd.prog 9 = some { size := 1, bytes := 16, zero := [Value.string ⟨#[]⟩], kind := TK.str } := by kernel_rfl
theorem tk9 : tkOf Tryd.prog 9 = TK.str := by kernel_rfl
theorem ty10 : tyOf Tryd.prog 10 = some { size := 1, bytes := 16, zero := [Value.string ⟨#[]⟩], kind := TK.str } := by kernel_rfl
theorem tk10 : tkOf Tryd.prog 10 = TK.str := by kernel_rfl
theorem ty11 : tyOf Tryd.prog 11 = some { size := 1, bytes := 16, zero := [Value.string ⟨#[]⟩], kind := TK.str } := by kernel_rfl
theorem tk11 : tkOf Tryd.prog 11 = TK.str := by kernel_rfl
theorem ty12 : tyOf Tryd.prog 12 = some { size := 1, bytes := 8, zero := [Value.int IntKind.u64 0], kind := TK.int IntKind.u64 } := by kernel_rfl
theorem tk12 : tkOf Tryd.prog 12 = TK.int IntKind.u64 := by kernel_rfl
theorem ty13 : tyOf Tryd.prog 13 = some { size := 2, bytes := 24, zero := [Value.string ⟨#[]⟩, Value.int IntKind.u64 0], kind := TK.struct [(0, 9), (1, 12)] false } := by kernel_rfl
theorem tk13 : tkOf Tryd.prog 13 = TK.struct [(0, 9), (1, 12)] false := by kernel_rfl
theorem ty14 : tyOf Tryd.prog 14 = some { size := 2, bytes := 24, zero := [Value.string ⟨#[]⟩, Value.int IntKind.u64 0], kind := TK.struct [(0, 9), (1, 12)] false } := by kernel_rfl
theorem tk14 : tkOf Tryd.prog 14 = TK.struct [(0, 9), (1, 12)] false := by kernel_rfl
theorem ty15 : tyOf Tryd.prog 15 = some { size := 1, bytes := 8, zero := [Value.pointer none], kind := TK.ptr 97 } := by kernel_rfl
theorem tk15 : tkOf Tryd.prog 15 = TK.ptr 97 := by kernel_rfl
theorem ty16 : tyOf Tryd.prog 16 = some { size := 1, bytes := 8, zero := [Value.pointer none], kind := TK.ptr 100 } := by kernel_rfl
theorem tk16 : tkOf Tryd.prog 16 = TK.ptr 100 := by kernel_rfl
theorem ty17 : tyOf Tryd.prog 17 = some { size := 1, bytes := 8, zero := [Value.pointer none], kind := TK.ptr 109 } := by kernel_rfl
theorem tk17 : tkOf Tryd.prog 17 = TK.ptr 109 := by kernel_rfl
theorem ty18 : tyOf Tryd.prog 18 = some { size := 1, bytes := 8, zero := [Value.pointer none], kind := TK.struct [(0, 17)] false } := by kernel_rfl
theorem tk18 : tkOf Tryd.prog 18 = TK.struct [(0, 17)] false := by kernel_rfl
theorem ty19 : tyOf Tryd.prog 19 = some { size := 1, bytes := 8, zero := [Value.pointer none], kind := TK.struct [(0, 17)] false } := by kernel_rfl
theorem tk19 : tkOf Tryd.prog 19 = TK.struct [(0, 17)] false := by kernel_rfl
theorem ty20 : tyOf Tryd.prog 20 = some { size := 1, bytes := 16, zero := [Value.nilIface], kind := TK.other } := by kernel_rfl
theorem tk20 : tkOf Tryd.prog 20 = TK.other := by kernel_rfl
theorem ty21 : tyOf Tryd.prog 21 = some { size := 1, bytes := 4, zero := [Value.int IntKind.i32 0], kind := TK.int IntKind.i32 } := by kernel_rfl
theorem tk21 : tkOf Tryd.prog 21 = TK.int IntKind.i32 := by kernel_rfl
theorem ty22 : tyOf Tryd.prog 22 = some { size := 1, bytes := 24, zero := [Value.slice none 0 0], kind := TK.slice 3 } := by kernel_rfl
theorem tk22 : tkOf Tryd.prog 22 = TK.slice 3 := by kernel_rfl
theorem ty23 : tyOf Tryd.prog 23 = some { size := 1, bytes := 24, zero := [Value.slice none 0 0], kind := TK.slice 51 } := by kernel_rfl
theorem tk23 : tkOf Tryd.prog 23 = TK.slice 51 := by kernel_rfl
theorem ty24 : tyOf Tryd.prog 24 = some { size := 1, bytes := 24, zero := [Value.slice none 0 0], kind := TK.slice 56 } := by kernel_rfl
theorem tk24 : tkOf Tryd.prog 24 = TK.slice 56 := by kernel_rfl
theorem ty25 : tyOf Tryd.prog 25 = some { size := 1, bytes := 8, zero := [Value.nilFunc], kind := TK.func } := by kernel_rfl
theorem tk25 : tkOf Tryd.prog 25 = TK.func := by kernel_rfl
theorem ty26 : tyOf Tryd.prog 26 = some { size := 1, bytes := 8, zero := [Value.nilFunc], kind := TK.func } := by kernel_rfl
theorem tk26 : tkOf Tryd.prog 26 = TK.func := by kernel_rfl
theorem ty27 : tyOf Tryd.prog 27 = some { size := 1, bytes := 8, zero := [Value.pointer none], kind := TK.ptr 58 } := by kernel_rfl
theorem tk27 : tkOf Tryd.prog 27 = TK.ptr 58 := by kernel_rfl
theorem ty28 : tyOf Tryd.prog 28 = some { size := 1, bytes := 8, zero := [Value.nilFunc], kind := TK.func } := by kernel_rfl
theorem tk28 : tkOf Tryd.prog 28 = TK.func := by kernel_rfl
theorem ty29 : tyOf Tryd.prog 29 = some { size := 1, bytes := 8, zero := [Value.nilFunc], kind := TK.func } := by kernel_rfl
theorem tk29 : tkOf Tryd.prog 29 = TK.func := by kernel_rfl
theorem ty30 : tyOf Tryd.prog 30 = some { size := 1, bytes := 8, zero := [Value.nilFunc], kind := TK.func } := by kernel_rfl
theorem tk30 : tkOf Tryd.prog 30 = TK.func := by kernel_rfl
theorem ty31 : tyOf Tryd.prog 31 = some { size := 1, bytes := 8, zero := [Value.nilFunc], kind := TK.func } := by kernel_rfl
theorem tk31 : tkOf Tryd.prog 31 = TK.func := by kernel_rfl
theorem ty32 : tyOf Tryd.prog 32 = some { size := 1, bytes := 8, zero := [Value.nilFunc], kind := TK.func } := by kernel_rfl
theorem tk32 : tkOf Tryd.prog 32 = TK.func := by kernel_rfl
theorem ty33 : tyOf Tryd.prog 33 = some { size := 1, bytes := 8, zero := [Value.nilFunc], kind := TK.func } := by kernel_rfl
theorem tk33 : tkOf Tryd.prog 33 = TK.func := by kernel_rfl
theorem ty34 : tyOf Tryd.prog 34 = some { size := 1, bytes := 8, zero := [Value.nilFunc], kind := TK.func } := by kernel_rfl
theorem tk34 : tkOf Tryd.prog 34 = TK.func := by kernel_rfl
theorem ty35 : tyOf Tryd.prog 35 = some { size := 1, bytes := 24, zero := [Value.slice none 0 0], kind := TK.slice 23 } := by kernel_rfl
theorem tk35 : tkOf Tryd.prog 35 = TK.slice 23 := by kernel_rfl
theorem ty36 : tyOf Tryd.prog 36 = some { size := 1, bytes := 8, zero := [Value.int IntKind.i64 0], kind := TK.int IntKind.i64 } := by kernel_rfl
theorem tk36 : tkOf Tryd.prog 36 = TK.int IntKind.i64 := by kernel_rfl
theorem ty37 : tyOf Tryd.prog 37 = some { size := 1, bytes := 8, zero := [Value.nilFunc], kind := TK.func } := by kernel_rfl
theorem tk37 : tkOf Tryd.prog 37 = TK.func := by kernel_rfl
theorem ty38 : tyOf Tryd.prog 38 = some { size := 1, bytes := 24, zero := [Value.slice none 0 0], kind := TK.slice 22 } := by kernel_rfl
theorem tk38 : tkOf Tryd.prog 38 = TK.slice 22 := by kernel_rfl
theorem ty39 : tyOf Tryd.prog 39 = some { size := 1, bytes := 24, zero := [Value.slice none 0 0], kind := TK.slice 54 } := by kernel_rfl
theorem tk39 : tkOf Tryd.prog 39 = TK.slice 54 := by kernel_rfl
theorem ty40 : tyOf Tryd.prog 40 = some { size := 1, bytes := 0, zero := [Value.tuple { toList := [Value.slice none 0 0, Value.int IntKind.i64 0] }], kind := TK.other } := by kernel_rfl
theorem tk40 : tkOf Tryd.prog 40 = TK.other := by kernel_rfl
theorem ty41 : tyOf Tryd.prog 41 = some { size := 1, bytes := 8, zero := [Value.nilFunc], kind := TK.func } := by kernel_rfl
theorem tk41 : tkOf Tryd.prog 41 = TK.func := by kernel_rfl
theorem ty42 : tyOf Tryd.prog 42 = some { size := 1, bytes := 8, zero := [Value.nilFunc], kind := TK.func } := by kernel_rfl
theorem tk42 : tkOf Tryd.prog 42 = TK.func := by kernel_rfl
theorem ty43 : tyOf Tryd.prog 43 = some { size := 1, bytes := 8, zero := [Value.nilFunc], kind := TK.func } := by kernel_rfl
theorem tk43 : tkOf Tryd.prog 43 = TK.func := by kernel_rfl
theorem ty44 : tyOf Tryd.prog 44 = some { size := 1, bytes := 24, zero := [Value.slice none 0 0], kind := TK.slice 24 } := by kernel_rfl
theorem tk44 : tkOf Tryd.prog 44 = TK.slice 24 := by kernel_rfl
theorem ty45 : tyOf Tryd.prog 45 = some { size := 1, bytes := 8, zero := [Value.nilFunc], kind := TK.func } := by kernel_rfl
theorem tk45 : tkOf Tryd.prog 45 = TK.func := by kernel_rfl
theorem ty46 : tyOf Tryd.prog 46 = some { size := 1, bytes := 8, zero := [Value.nilFunc], kind := TK.func } := by kernel_rfl
theorem tk46 : tkOf Tryd.prog 46 = TK.func := by kernel_rfl
theorem ty47 : tyOf Tryd.prog 47 = some { size := 1, bytes := 8, zero := [Value.nilFunc], kind := TK.func } := by kernel_rfl
theorem tk47 : tkOf Tryd.prog 47 = TK.func := by kernel_rfl
theorem ty48 : tyOf Tryd.prog 48 = some { size := 1, bytes := 8, zero := [Value.nilFunc], kind := TK.func } := by kernel_rfl
theorem tk48 : tkOf Tryd.prog 48 = TK.func := by kernel_rfl
theorem ty49 : tyOf Tryd.prog 49 = some { size := 1, bytes := 8, zero := [Value.nilFunc], kind := TK.func } := by kernel_rfl
theorem tk49 : tkOf Tryd.prog 49 = TK.func := by kernel_rfl
theorem ty50 : tyOf Tryd.prog 50 = some { size := 5, bytes := 72, zero := [Value.int IntKind.i64 0, Value.slice none 0 0, Value.slice none 0 0, Value.int IntKind.i64 0, Value.int IntKind.i64 0], kind := TK.struct [(0, 3), (1, 22), (2, 22), (3, 3), (4, 3)] true } := by kernel_rfl
theorem tk50 : tkOf Tryd.prog 50 = TK.struct [(0, 3), (1, 22), (2, 22), (3, 3), (4, 3)] true := by kernel_rfl
theorem ty51 : tyOf Tryd.prog 51 = some { size := 5, bytes := 72, zero := [Value.int IntKind.i64 0, Value.slice none 0 0, Value.slice none 0 0, Value.int IntKind.i64 0, Value.int IntKind.i64 0], kind := TK.struct [(0, 3), (1, 22), (2, 22), (3, 3), (4, 3)] true } := by kernel_rfl
theorem tk51 : tkOf Tryd.prog 51 = TK.struct [(0, 3), (1, 22), (2, 22), (3, 3), (4, 3)] true := by kernel_rfl
theorem ty52 : tyOf Tryd.prog 52 = some { size := 1, bytes := 8, zero := [Value.nilFunc], kind := TK.func } := by kernel_rfl
theorem tk52 : tkOf Tryd.prog 52 = TK.func := by kernel_rfl
theorem ty53 : tyOf Tryd.prog 53 = some { size := 2, bytes := 16, zero := [Value.int IntKind.i64 0, Value.int IntKind.i64 0], kind := TK.struct [(0, 3), (1, 3)] true } := by kernel_rfl
theorem tk53 : tkOf Tryd.prog 53 = TK.struct [(0, 3), (1, 3)] true := by kernel_rfl
theorem ty54 : tyOf Tryd.prog 54 = some { size := 2, bytes := 16, zero := [Value.int IntKind.i64 0, Value.int IntKind.i64 0], kind := TK.struct [(0, 3), (1, 3)] true } := by kernel_rfl
theorem tk54 : tkOf Tryd.prog 54 = TK.struct [(0, 3), (1, 3)] true := by kernel_rfl
theorem ty55 : tyOf Tryd.prog 55 = some { size := 3, bytes := 24, zero := [Value.int IntKind.i64 0, Value.int IntKind.i64 0, Value.int IntKind.i64 0], kind := TK.struct [(0, 3), (1, 3), (2, 3)] true } := by kernel_rfl
theorem tk55 : tkOf Tryd.prog 55 = TK.struct [(0, 3), (1, 3), (2, 3)] true := by kernel_rfl
theorem ty56 : tyOf Tryd.prog 56 = some { size := 3, bytes := 24, zero := [Value.int IntKind.i64 0, Value.int IntKind.i64 0, Value.int IntKind.i64 0], kind := TK.struct [(0, 3), (1, 3), (2, 3)] true } := by kernel_rfl
theorem tk56 : tkOf Tryd.prog 56 = TK.struct [(0, 3), (1, 3), (2, 3)] true := by kernel_rfl
theorem ty57 : tyOf Tryd.prog 57 = some { size := 2, bytes := 32, zero := [Value.slice none 0 0, Value.int IntKind.i64 0], kind := TK.struct [(0, 22), (1, 3)] true } := by kernel_rfl
theorem tk57 : tkOf Tryd.prog 57 = TK.struct [(0, 22), (1, 3)] true := by kernel_rfl
theorem ty58 : tyOf Tryd.prog 58 = some { size := 2, bytes := 32, zero := [Value.slice none 0 0, Value.int IntKind.i64 0], kind := TK.struct [(0, 22), (1, 3)] true } := by kernel_rfl
theorem tk58 : tkOf Tryd.prog 58 = TK.struct [(0, 22), (1, 3)] true := by kernel_rfl
theorem ty59 : tyOf Tryd.prog 59 = some { size := 1, bytes := 8, zero := [Value.nilFunc], kind := TK.func } := by kernel_rfl
theorem tk59 : tkOf Tryd.prog 59 = TK.func := by kernel_rfl
theorem ty60 : tyOf Tryd.prog 60 = some { size := 1, bytes := 8, zero := [Value.nilFunc], kind := TK.func } := by kernel_rfl
theorem tk60 : tkOf Tryd.prog 60 = TK.func := by kernel_rfl
theorem ty61 : tyOf Tryd.prog 61 = some { size := 1, bytes := 8, zero := [Value.nilFunc], kind := TK.func } := by kernel_rfl
theorem tk61 : tkOf Tryd.prog 61 = TK.func := by kernel_rfl
theorem ty62 : tyOf Tryd.prog 62 = some { size := 1, bytes := 24, zero := [Value.slice none 0 0], kind := TK.slice 4 } := by kernel_rfl
theorem tk62 : tkOf Tryd.prog 62 = TK.slice 4 := by kernel_rfl
theorem ty63 : tyOf Tryd.prog 63 = some { size := 1, bytes := 0, zero := [Value.tuple { toList := [Value.slice none 0 0, Value.slice none 0 0] }], kind := TK.other } := by kernel_rfl
theorem tk63 : tkOf Tryd.prog 63 = TK.other := by kernel_rfl
theorem ty64 : tyOf Tryd.prog 64 = some { size := 1, bytes := 8, zero := [Value.nilFunc], kind := TK.func } := by kernel_rfl
theorem tk64 : tkOf Tryd.prog 64 = TK.func := by kernel_rfl
theorem ty65 : tyOf Tryd.prog 65 = some { size := 1, bytes := 8, zero := [Value.nilFunc], kind := TK.func } := by kernel_rfl
theorem tk65 : tkOf Tryd.prog 65 = TK.func := by kernel_rfl
theorem ty66 : tyOf Tryd.prog 66 = some { size := 1, bytes := 8, zero := [Value.pointer none], kind := TK.ptr 51 } := by kernel_rfl
theorem tk66 : tkOf Tryd.prog 66 = TK.ptr 51 := by kernel_rfl
theorem ty67 : tyOf Tryd.prog 67 = some { size := 1, bytes := 8, zero := [Value.nilFunc], kind := TK.func } := by kernel_rfl
theorem tk67 : tkOf Tryd.prog 67 = TK.func := by kernel_rfl
theorem ty68 : tyOf Tryd.prog 68 = some { size := 1, bytes := 8, zero := [Value.nilFunc], kind := TK.func } := by kernel_rfl
theorem tk68 : tkOf Tryd.prog 68 = TK.func := by kernel_rfl
theorem ty69 : tyOf Tryd.prog 69 = some { size := 1, bytes := 8, zero := [Value.nilFunc], kind := TK.func } := by kernel_rfl
theorem tk69 : tkOf Tryd.prog 69 = TK.func := by kernel_rfl
theorem ty70 : tyOf Tryd.prog 70 = some { size := 1, bytes := 8, zero := [Value.nilFunc], kind := TK.func } := by kernel_rfl
theorem tk70 : tkOf Tryd.prog 70 = TK.func := by kernel_rfl
theorem ty71 : tyOf Tryd.prog 71 = some { size := 1, bytes := 8, zero := [Value.nilFunc], kind := TK.func } := by kernel_rfl
theorem tk71 : tkOf Tryd.prog 71 = TK.func := by kernel_rfl
theorem ty72 : tyOf Tryd.prog 72 = some { size := 1, bytes := 8, zero := [Value.nilFunc], kind := TK.func } := by kernel_rfl
theorem tk72 : tkOf Tryd.prog 72 = TK.func := by kernel_rfl
theorem ty73 : tyOf Tryd.prog 73 = some { size := 1, bytes := 8, zero := [Value.nilFunc], kind := TK.func } := by kernel_rfl
theorem tk73 : tkOf Tryd.prog 73 = TK.func := by kernel_rfl
theorem ty74 : tyOf Tryd.prog 74 = some { size := 1, bytes := 8, zero := [Value.nilFunc], kind := TK.func } := by kernel_rfl
theorem tk74 : tkOf Tryd.prog 74 = TK.func := by kernel_rfl
theorem ty75 : tyOf Tryd.prog 75 = some { size := 1, bytes := 8, zero := [Value.nilFunc], kind := TK.func } := by kernel_rfl
theorem tk75 : tkOf Tryd.prog 75 = TK.func := by kernel_rfl
theorem ty76 : tyOf Tryd.prog 76 = some { size := 1, bytes := 8, zero := [Value.nilFunc], kind := TK.func } := by kernel_rfl
theorem tk76 : tkOf Tryd.prog 76 = TK.func := by kernel_rfl
theorem ty77 : tyOf Tryd.prog 77 = some { size := 1, bytes := 8, zero := [Value.nilFunc], kind := TK.func } := by kernel_rfl
theorem tk77 : tkOf Tryd.prog 77 = TK.func := by kernel_rfl
theorem ty78 : tyOf Tryd.prog 78 = some { size := 1, bytes := 8, zero := [Value.nilFunc], kind := TK.func } := by kernel_rfl
theorem tk78 : tkOf Tryd.prog 78 = TK.func := by kernel_rfl
theorem ty79 : tyOf Tryd.prog 79 = some { size := 1, bytes := 8, zero := [Value.nilFunc], kind := TK.func } := by kernel_rfl
theorem tk79 : tkOf Tryd.prog 79 = TK.func := by kernel_rfl
theorem ty80 : tyOf Tryd.prog 80 = some { size := 1, bytes := 8, zero := [Value.nilFunc], kind := TK.func } := by kernel_rfl
theorem tk80 : tkOf Tryd.prog 80 = TK.func := by kernel_rfl
theorem ty81 : tyOf Tryd.prog 81 = some { size := 1, bytes := 0, zero := [Value.tuple { toList := [Value.agg { toList := [Value.int IntKind.i64 0, Value.int IntKind.i64 0] }, Value.int IntKind.i64 0] }], kind := TK.other } := by kernel_rfl
theorem tk81 : tkOf Tryd.prog 81 = TK.other := by kernel_rfl
theorem ty82 : tyOf Tryd.prog 82 = some { size := 1, bytes := 8, zero := [Value.nilFunc], kind := TK.func } := by kernel_rfl
theorem tk82 : tkOf Tryd.prog 82 = TK.func := by kernel_rfl
theorem ty83 : tyOf Tryd.prog 83 = some { size := 1, bytes := 8, zero := [Value.nilFunc], kind := TK.func } := by kernel_rfl
theorem tk83 : tkOf Tryd.prog 83 = TK.func := by kernel_rfl
theorem ty84 : tyOf Tryd.prog 84 = some { size := 1, bytes := 8, zero := [Value.nilFunc], kind := TK.func } := by kernel_rfl
theorem tk84 : tkOf Tryd.prog 84 = TK.func := by kernel_rfl
theorem ty85 : tyOf Tryd.prog 85 = some { size := 1, bytes := 8, zero := [Value.nilFunc], kind := TK.func } := by kernel_rfl
theorem tk85 : tkOf Tryd.prog 85 = TK.func := by kernel_rfl
theorem ty86 : tyOf Tryd.prog 86 = some { size := 1, bytes := 8, zero := [Value.nilFunc], kind := TK.func } := by kernel_rfl
theorem tk86 : tkOf Tryd.prog 86 = TK.func := by kernel_rfl
theorem ty87 : tyOf Tryd.prog 87 = some { size := 1, bytes := 8, zero := [Value.nilFunc], kind := TK.func } := by kernel_rfl
theorem tk87 : tkOf Tryd.prog 87 = TK.func := by kernel_rfl
theorem ty88 : tyOf Tryd.prog 88 = some { size := 1, bytes := 8, zero := [Value.nilFunc], kind := TK.func } := by kernel_rfl
theorem tk88 : tkOf Tryd.prog 88 = TK.func := by kernel_rfl
theorem ty89 : tyOf Tryd.prog 89 = some { size := 1, bytes := 8, zero := [Value.nilFunc], kind := TK.func } := by kernel_rfl
theorem tk89 : tkOf Tryd.prog 89 = TK.func := by kernel_rfl
theorem ty90 : tyOf Tryd.prog 90 = some { size := 1, bytes := 8, zero := [Value.nilFunc], kind := TK.func } := by kernel_rfl
theorem tk90 : tkOf Tryd.prog 90 = TK.func := by kernel_rfl
theorem ty91 : tyOf Tryd.prog 91 = some { size := 1, bytes := 8, zero := [Value.nilFunc], kind := TK.func } := by kernel_rfl
theorem tk91 : tkOf Tryd.prog 91 = TK.func := by kernel_rfl
theorem ty92 : tyOf Tryd.prog 92 = some { size := 1, bytes := 8, zero := [Value.nilFunc], kind := TK.func } := by kernel_rfl
theorem tk92 : tkOf Tryd.prog 92 = TK.func := by kernel_rfl
theorem ty93 : tyOf Tryd.prog 93 = some { size := 1, bytes := 8, zero := [Value.nilFunc], kind := TK.func } := by kernel_rfl
theorem tk93 : tkOf Tryd.prog 93 = TK.func := by kernel_rfl
theorem ty94 : tyOf Tryd.prog 94 = some { size := 1, bytes := 0, zero := [Value.tuple { toList := [Value.int IntKind.i64 0, Value.int IntKind.i64 0] }], kind := TK.other } := by kernel_rfl
theorem tk94 : tkOf Tryd.prog 94 = TK.other := by kernel_rfl
theorem ty95 : tyOf Tryd.prog 95 = some { size := 1, bytes := 8, zero := [Value.nilFunc], kind := TK.func } := by kernel_rfl
theorem tk95 : tkOf Tryd.prog 95 = TK.func := by kernel_rfl
theorem ty96 : tyOf Tryd.prog 96 = some { size := 4, bytes := 40, zero := [Value.pointer none, Value.pointer none, Value.pointer none, Value.string ⟨#[]⟩], kind := TK.struct [(0, 17), (1, 17), (2, 17), (3, 9)] false } := by kernel_rfl
theorem tk96 : tkOf Tryd.prog 96 = TK.struct [(0, 17), (1, 17), (2, 17), (3, 9)] false := by kernel_rfl
theorem ty97 : tyOf Tryd.prog 97 = some { size := 4, bytes := 40, zero := [Value.pointer none, Value.pointer none, Value.pointer none, Value.string ⟨#[]⟩], kind := TK.struct [(0, 17), (1, 17), (2, 17), (3, 9)] false } := by kernel_rfl
theorem tk97 : tkOf Tryd.prog 97 = TK.struct [(0, 17), (1, 17), (2, 17), (3, 9)] false := by kernel_rfl
theorem ty98 : tyOf Tryd.prog 98 = some { size := 0, bytes := 0, zero := [], kind := TK.array 0 16 } := by kernel_rfl
theorem tk98 : tkOf Tryd.prog 98 = TK.array 0 16 := by kernel_rfl
theorem ty99 : tyOf Tryd.prog 99 = some { size := 0, bytes := 0, zero := [], kind := TK.struct [(0, 98)] false } := by kernel_rfl
theorem tk99 : tkOf Tryd.prog 99 = TK.struct [(0, 98)] false := by kernel_rfl
theorem ty100 : tyOf Tryd.prog 100 = some { size := 0, bytes := 0, zero := [], kind := TK.struct [(0, 98)] false } := by kernel_rfl
theorem tk100 : tkOf Tryd.prog 100 = TK.struct [(0, 98)] false := by kernel_rfl
theorem ty101 : tyOf Tryd.prog 101 = some { size := 1, bytes := 4, zero := [Value.int IntKind.u32 0], kind := TK.int IntKind.u32 } := by kernel_rfl
theorem tk101 : tkOf Tryd.prog 101 = TK.int IntKind.u32 := by kernel_rfl
theorem ty102 : tyOf Tryd.prog 102 = some { size := 1, bytes := 1, zero := [Value.int IntKind.u8 0], kind := TK.int IntKind.u8 } := by kernel_rfl
theorem tk102 : tkOf Tryd.prog 102 = TK.int IntKind.u8 := by kernel_rfl
theorem ty103 : tyOf Tryd.prog 103 = some { size := 1, bytes := 1, zero := [Value.int IntKind.u8 0], kind := TK.int IntKind.u8 } := by kernel_rfl
theorem tk103 : tkOf Tryd.prog 103 = TK.int IntKind.u8 := by kernel_rfl
theorem ty104 : tyOf Tryd.prog 104 = some { size := 1, bytes := 8, zero := [Value.nilFunc], kind := TK.func } := by kernel_rfl
theorem tk104 : tkOf Tryd.prog 104 = TK.func := by kernel_rfl
theorem ty105 : tyOf Tryd.prog 105 = some { size := 1, bytes := 8, zero := [Value.pointer none], kind := TK.ptr 5 } := by kernel_rfl
theorem tk105 : tkOf Tryd.prog 105 = TK.ptr 5 := by kernel_rfl
theorem ty106 : tyOf Tryd.prog 106 = some { size := 1, bytes := 4, zero := [Value.int IntKind.i32 0], kind := TK.int IntKind.i32 } := by kernel_rfl
theorem tk106 : tkOf Tryd.prog 106 = TK.int IntKind.i32 := by kernel_rfl
theorem ty107 : tyOf Tryd.prog 107 = some { size := 1, bytes := 4, zero := [Value.int IntKind.i32 0], kind := TK.int IntKind.i32 } := by kernel_rfl
theorem tk107 : tkOf Tryd.prog 107 = TK.int IntKind.i32 := by kernel_rfl
theorem ty108 : tyOf Tryd.prog 108 = some { size := 11, bytes := 48, zero := [Value.int IntKind.u64 0, Value.int IntKind.u64 0, Value.int IntKind.u32 0, Value.int IntKind.u8 0, Value.int IntKind.u8 0, Value.int IntKind.u8 0, Value.int IntKind.u8 0, Value.nilFunc, Value.pointer none, Value.int IntKind.i32 0, Value.int IntKind.i32 0], kind := TK.struct [(0, 12), (1, 12), (2, 101), (3, 102), (4, 5), (5, 5), (6, 103), (7, 104), (8, 105), (9, 106), (10, 107)] false } := by kernel_rfl
theorem tk108 : tkOf Tryd.prog 108 = TK.struct [(0, 12), (1, 12), (2, 101), (3, 102), (4, 5), (5, 5), (6, 103), (7, 104), (8, 105), (9, 106), (10, 107)] false := by kernel_rfl
theorem ty109 : tyOf Tryd.prog 109 = some { size := 11, bytes := 48, zero := [Value.int IntKind.u64 0, Value.int IntKind.u64 0, Value.int IntKind.u32 0, Value.int IntKind.u8 0, Value.int IntKind.u8 0, Value.int IntKind.u8 0, Value.int IntKind.u8 0, Value.nilFunc, Value.pointer none, Value.int IntKind.i32 0, Value.int IntKind.i32 0], kind := TK.struct [(0, 12), (1, 12), (2, 101), (3, 102), (4, 5), (5, 5), (6, 103), (7, 104), (8, 105), (9, 106), (10, 107)] false } := by kernel_rfl
theorem tk109 : tkOf Tryd.prog 109 = TK.struct [(0, 12), (1, 12), (2, 101), (3, 102), (4, 5), (5, 5), (6, 103), (7, 104), (8, 105), (9, 106), (10, 107)] false := by kernel_rfl
theorem ty110 : tyOf Tryd.prog 110 = some { size := 1, bytes := 8, zero := [Value.pointer none], kind := TK.other } := by kernel_rfl
theorem tk110 : tkOf Tryd.prog 110 = TK.other := by kernel_rfl
theorem pl7 : placesOf Tryd.prog [(0, 2), (1, 3), (2, 4), (3, 6)] = some [(0, 1), (1, 1), (2, 1), (3, 1)] := by kernel_rfl
theorem pl13 : placesOf Tryd.prog [(0, 9), (1, 12)] = some [(0, 1), (1, 1)] := by kernel_rfl
theorem pl18 : placesOf Tryd.prog [(0, 17)] = some [(0, 1)] := by kernel_rfl
theorem pl50 : placesOf Tryd.prog [(0, 3), (1, 22), (2, 22), (3, 3), (4, 3)] = some [(0, 1), (1, 1), (2, 1), (3, 1), (4, 1)] := by kernel_rfl
theorem pl53 : placesOf Tryd.prog [(0, 3), (1, 3)] = some [(0, 1), (1, 1)] := by kernel_rfl
theorem pl55 : placesOf Tryd.prog [(0, 3), (1, 3), (2, 3)] = some [(0, 1), (1, 1), (2, 1)] := by kernel_rfl
theorem pl57 : placesOf Tryd.prog [(0, 22), (1, 3)] = some [(0, 1), (1, 1)] := by kernel_rfl
theorem pl96 : placesOf Tryd.prog [(0, 17), (1, 17), (2, 17), (3, 9)] = some [(0, 1), (1, 1), (2, 1), (3, 1)] := by kernel_rfl
theorem pl99 : placesOf Tryd.prog [(0, 98)] = some [(0, 0)] := by kernel_rfl
theorem pl108 : placesOf Tryd.prog [(0, 12), (1, 12), (2, 101), (3, 102), (4, 5), (5, 5), (6, 103), (7, 104), (8, 105), (9, 106), (10, 107)] = some [(0, 1), (1, 1), (2, 1), (3, 1), (4, 1), (5, 1), (6, 1), (7, 1), (8, 1), (9, 1), (10, 1)] := by kernel_rfl
attribute [go_sem] ty0 tk0 ty1 tk1 ty2 tk2 ty3 tk3 ty4 tk4 ty5 tk5 ty6 tk6 ty7 tk7 ty8 tk8 ty9 tk9 ty10 tk10 ty11 tk11 ty12 tk12 ty13 tk13 ty14 tk14 ty15 tk15 ty16 tk16 ty17 tk17 ty18 tk18 ty19 tk19 ty20 tk20 ty21 tk21 ty22 tk22 ty23 tk23 ty24 tk24 ty25 tk25 ty26 tk26 ty27 tk27 ty28 tk28 ty29 tk29 ty30 tk30 ty31 tk31 ty32 tk32 ty33 tk33 ty34 tk34 ty35 tk35 ty36 tk36 ty37 tk37 ty38 tk38 ty39 tk39 ty40 tk40 ty41 tk41 ty42 tk42 ty43 tk43 ty44 tk44 ty45 tk45 ty46 tk46 ty47 tk47 ty48 tk48 ty49 tk49 ty50 tk50 ty51 tk51 ty52 tk52 ty53 tk53 ty54 tk54 ty55 tk55 ty56 tk56 ty57 tk57 ty58 tk58 ty59 tk59 ty60 tk60 ty61 tk61 ty62 tk62 ty63 tk63 ty64 tk64 ty65 tk65 ty66 tk66 ty67 tk67 ty68 tk68 ty69 tk69 ty70 tk70 ty71 tk71 ty72 tk72 ty73 tk73 ty74 tk74 ty75 tk75 ty76 tk76 ty77 tk77 ty78 tk78 ty79 tk79 ty80 tk80 ty81 tk81 ty82 tk82 ty83 tk83 ty84 tk84 ty85 tk85 ty86 tk86 ty87 tk87 ty88 tk88 ty89 tk89 ty90 tk90 ty91 tk91 ty92 tk92 ty93 tk93 ty94 tk94 ty95 tk95 ty96 tk96 ty97 tk97 ty98 tk98 ty99 tk99 ty100 tk100 ty101 tk101 ty102 tk102 ty103 tk103 ty104 tk104 ty105 tk105 ty106 tk106 ty107 tk107 ty108 tk108 ty109 tk109 ty110 tk110 pl7 pl13 pl18 pl50 pl53 pl55 pl57 pl96 pl99 pl108
end Go.Am.Cl
