/-
  The seat's types and functions, as the evaluator wants them. Written by a program.
-/
import Derived.Test.YtgplkdcibahofaaEvDef
import Derived.Test.YtgplkdcibahofaaProg
namespace Go.Proofs.Ytgplkdcibahofaa.Ev
open Go
set_option linter.unusedVariables false
/-- tattle/api.Doubt: type 39 -/
@[ext] structure Doubt where
  who : Int
  inc : Int
  at_ : Int
  by_ : List Int
  deriving DecidableEq
def E : Nat → Type
  | 3 => Int
  | 25 => Int
  | 2 => Int
  | 37 => List Int
  | 39 => Doubt
  | _ => Unit
def enc : (t : Nat) → E t → List (AV E)
  | 3, x => [.int .i64 (x : Int)]
  | 25, x => [.int .u64 (x : Int)]
  | 2, x => [.int .i64 (x : Int)]
  | 37, x => [.sl 3 (x : List Int)]
  | 39, x => [.int .i64 (x : Doubt).who, .int .u64 (x : Doubt).inc, .int .i64 (x : Doubt).at_, .sl 3 (x : Doubt).by_]
  | _, _ => []
def dec : (t : Nat) → List (AV E) → Option (E t)
  | 3, [.int .i64 x1] => some (x1 : Int)
  | 25, [.int .u64 x1] => some (x1 : Int)
  | 2, [.int .i64 x1] => some (x1 : Int)
  | 37, [.sl 3 x1] => some (x1 : List Int)
  | 39, [.int .i64 x1, .int .u64 x2, .int .i64 x3, .sl 3 x4] => some (⟨x1, x2, x3, x4⟩ : Doubt)
  | _, _ => none
theorem E_rest : True := trivial
def z : (t : Nat) → E t := fun t =>
  if h : t = 3 then (by subst h; exact (0 : Int)) else
  if h : t = 25 then (by subst h; exact (0 : Int)) else
  if h : t = 2 then (by subst h; exact (0 : Int)) else
  if h : t = 37 then (by subst h; exact ([] : List Int)) else
  if h : t = 39 then (by subst h; exact (⟨0, 0, 0, []⟩ : Doubt)) else
  cast (by unfold E; split <;> first | contradiction | rfl) ()
def toInts : (t : Nat) → List (E t) → Option (List Int)

  | _, _ => none
def ofInts : (t : Nat) → List Int → Option (List (E t))

  | _, _ => none
def tyTab : Nat → Option (Ty E)
  | 1 => some ⟨.func, 1, 8, [.nilf]⟩
  | 2 => some ⟨.int .i64, 1, 8, [.int .i64 0]⟩
  | 3 => some ⟨.int .i64, 1, 8, [.int .i64 0]⟩
  | 4 => some ⟨.bool, 1, 1, [.bool false]⟩
  | 5 => some ⟨.int .u8, 1, 1, [.int .u8 0]⟩
  | 6 => some ⟨.int .u8, 1, 1, [.int .u8 0]⟩
  | 7 => some ⟨.struct [(0, 2, true), (1, 3, true), (2, 4, true), (3, 6, true)], 4, 24, [.int .i64 0, .int .i64 0, .bool false, .int .u8 0]⟩
  | 8 => some ⟨.struct [(0, 2, true), (1, 3, true), (2, 4, true), (3, 6, true)], 4, 24, [.int .i64 0, .int .i64 0, .bool false, .int .u8 0]⟩
  | 9 => some ⟨.str, 1, 16, [.str ⟨#[]⟩]⟩
  | 10 => some ⟨.str, 1, 16, [.str ⟨#[]⟩]⟩
  | 11 => some ⟨.str, 1, 16, [.str ⟨#[]⟩]⟩
  | 12 => some ⟨.int .u64, 1, 8, [.int .u64 0]⟩
  | 15 => some ⟨.ptr 81, 1, 8, [.nilp]⟩
  | 16 => some ⟨.ptr 84, 1, 8, [.nilp]⟩
  | 17 => some ⟨.ptr 93, 1, 8, [.nilp]⟩
  | 21 => some ⟨.int .i32, 1, 4, [.int .i32 0]⟩
  | 22 => some ⟨.slice 39, 1, 24, [.nils 39]⟩
  | 23 => some ⟨.struct [(0, 3, true), (1, 3, true), (2, 3, true)], 3, 24, [.int .i64 0, .int .i64 0, .int .i64 0]⟩
  | 24 => some ⟨.struct [(0, 3, true), (1, 3, true), (2, 3, true)], 3, 24, [.int .i64 0, .int .i64 0, .int .i64 0]⟩
  | 25 => some ⟨.int .u64, 1, 8, [.int .u64 0]⟩
  | 26 => some ⟨.struct [(0, 22, true), (1, 24, true), (4, 3, true), (5, 3, true), (6, 3, true), (7, 3, true), (8, 25, true), (9, 2, true)], 10, 96, [.nils 39, .int .i64 0, .int .i64 0, .int .i64 0, .int .i64 0, .int .i64 0, .int .i64 0, .int .i64 0, .int .u64 0, .int .i64 0]⟩
  | 27 => some ⟨.struct [(0, 22, true), (1, 24, true), (4, 3, true), (5, 3, true), (6, 3, true), (7, 3, true), (8, 25, true), (9, 2, true)], 10, 96, [.nils 39, .int .i64 0, .int .i64 0, .int .i64 0, .int .i64 0, .int .i64 0, .int .i64 0, .int .i64 0, .int .u64 0, .int .i64 0]⟩
  | 28 => some ⟨.func, 1, 8, [.nilf]⟩
  | 29 => some ⟨.func, 1, 8, [.nilf]⟩
  | 30 => some ⟨.func, 1, 8, [.nilf]⟩
  | 31 => some ⟨.func, 1, 8, [.nilf]⟩
  | 32 => some ⟨.int .i64, 1, 8, [.int .i64 0]⟩
  | 34 => some ⟨.func, 1, 8, [.nilf]⟩
  | 36 => some ⟨.func, 1, 8, [.nilf]⟩
  | 37 => some ⟨.slice 3, 1, 24, [.nils 3]⟩
  | 38 => some ⟨.struct [(0, 3, true), (1, 25, true), (2, 2, true), (3, 37, true)], 4, 48, [.int .i64 0, .int .u64 0, .int .i64 0, .nils 3]⟩
  | 39 => some ⟨.struct [(0, 3, true), (1, 25, true), (2, 2, true), (3, 37, true)], 4, 48, [.int .i64 0, .int .u64 0, .int .i64 0, .nils 3]⟩
  | 40 => some ⟨.func, 1, 8, [.nilf]⟩
  | 41 => some ⟨.func, 1, 8, [.nilf]⟩
  | 42 => some ⟨.func, 1, 8, [.nilf]⟩
  | 43 => some ⟨.func, 1, 8, [.nilf]⟩
  | 45 => some ⟨.func, 1, 8, [.nilf]⟩
  | 46 => some ⟨.func, 1, 8, [.nilf]⟩
  | 47 => some ⟨.func, 1, 8, [.nilf]⟩
  | 48 => some ⟨.func, 1, 8, [.nilf]⟩
  | 49 => some ⟨.func, 1, 8, [.nilf]⟩
  | 50 => some ⟨.func, 1, 8, [.nilf]⟩
  | 51 => some ⟨.func, 1, 8, [.nilf]⟩
  | 52 => some ⟨.func, 1, 8, [.nilf]⟩
  | 53 => some ⟨.func, 1, 8, [.nilf]⟩
  | 54 => some ⟨.func, 1, 8, [.nilf]⟩
  | 55 => some ⟨.func, 1, 8, [.nilf]⟩
  | 56 => some ⟨.int .u64, 1, 8, [.int .u64 0]⟩
  | 57 => some ⟨.func, 1, 8, [.nilf]⟩
  | 59 => some ⟨.func, 1, 8, [.nilf]⟩
  | 60 => some ⟨.func, 1, 8, [.nilf]⟩
  | 61 => some ⟨.func, 1, 8, [.nilf]⟩
  | 62 => some ⟨.func, 1, 8, [.nilf]⟩
  | 63 => some ⟨.func, 1, 8, [.nilf]⟩
  | 64 => some ⟨.func, 1, 8, [.nilf]⟩
  | 65 => some ⟨.func, 1, 8, [.nilf]⟩
  | 66 => some ⟨.func, 1, 8, [.nilf]⟩
  | 67 => some ⟨.func, 1, 8, [.nilf]⟩
  | 68 => some ⟨.func, 1, 8, [.nilf]⟩
  | 69 => some ⟨.func, 1, 8, [.nilf]⟩
  | 70 => some ⟨.int .u32, 1, 4, [.int .u32 0]⟩
  | 71 => some ⟨.func, 1, 8, [.nilf]⟩
  | 72 => some ⟨.func, 1, 8, [.nilf]⟩
  | 73 => some ⟨.func, 1, 8, [.nilf]⟩
  | 74 => some ⟨.func, 1, 8, [.nilf]⟩
  | 75 => some ⟨.func, 1, 8, [.nilf]⟩
  | 76 => some ⟨.func, 1, 8, [.nilf]⟩
  | 77 => some ⟨.func, 1, 8, [.nilf]⟩
  | 78 => some ⟨.func, 1, 8, [.nilf]⟩
  | 79 => some ⟨.func, 1, 8, [.nilf]⟩
  | 82 => some ⟨.array 0 16, 0, 0, []⟩
  | 85 => some ⟨.func, 1, 8, [.nilf]⟩
  | 86 => some ⟨.int .u8, 1, 1, [.int .u8 0]⟩
  | 87 => some ⟨.int .u8, 1, 1, [.int .u8 0]⟩
  | 88 => some ⟨.func, 1, 8, [.nilf]⟩
  | 89 => some ⟨.ptr 5, 1, 8, [.nilp]⟩
  | 90 => some ⟨.int .i32, 1, 4, [.int .i32 0]⟩
  | 91 => some ⟨.int .i32, 1, 4, [.int .i32 0]⟩
  | _ => none
noncomputable def ctx : Ctx := { E := E, enc := enc, dec := dec, z := z, ty := tyTab, toInts := toInts, ofInts := ofInts }
noncomputable def i2 : FnI E := ⟨Try.f2, []⟩
noncomputable def i3 : FnI E := ⟨Try.f3, [(13, [5, 8, 9, 10, 11, 13, 15, 18, 19, 20, 21, 22, 23, 24, 25, 26, 27, 28, 29, 30, 31, 32, 33, 34, 35, 36, 37, 38, 39, 40, 41, 42, 43, 44, 45, 46, 47, 48, 49, 50, 51, 52, 53, 54, 55, 56, 57, 58, 59, 60, 61, 62, 63, 64, 65, 66, 67, 68, 69, 70, 71, 72, 73, 74, 75, 76, 77, 78, 79, 80, 81, 82, 83, 84, 85, 86, 87, 88, 89, 90, 91, 92, 93, 94, 95, 96, 97, 98, 99, 100, 101, 102, 103, 104, 105, 106, 107, 108, 109, 110, 111, 112, 113, 114, 115, 116, 117, 118, 119, 120, 121, 122, 123, 124, 125, 126, 127, 128, 129, 130, 131, 132, 133, 134, 135, 136, 137, 138, 139, 140, 141]), (18, [5, 6, 8, 9, 10, 11, 12, 13, 15, 16, 18, 19, 20, 21, 22, 23, 24, 25, 26, 27, 28, 29, 30, 31, 32, 33, 34, 35, 36, 37, 38, 39, 40, 41, 42, 43, 44, 45, 46, 47, 48, 49, 50, 51, 52, 53, 54, 55, 56, 57, 58, 59, 60, 61, 62, 63, 64, 65, 66, 67, 68, 69, 70, 71, 72, 73, 74, 75, 76, 77, 78, 79, 80, 81, 82, 83, 84, 85, 86, 87, 88, 89, 90, 91, 92, 93, 94, 95, 96, 97, 98, 99, 100, 101, 102, 103, 104, 105, 106, 107, 108, 109, 110, 111, 112, 113, 114, 115, 116, 117, 118, 119, 120, 121, 122, 123, 124, 125, 126, 127, 128, 129, 130, 131, 132, 133, 134, 135, 136, 137, 138, 139, 140, 141, 142, 143, 144, 145, 146, 147, 148, 149, 150, 151, 152, 153, 154, 155, 156, 157])]⟩
noncomputable def i4 : FnI E := ⟨Try.f4, []⟩
noncomputable def i5 : FnI E := ⟨Try.f5, [(3, [5, 6, 7, 8, 9, 10, 11, 12, 13, 14, 15, 16, 17, 18, 19, 20, 21, 22, 23, 24, 25, 26, 27, 28, 29, 30, 31])]⟩
noncomputable def i6 : FnI E := ⟨Try.f6, [(2, [4, 5, 6, 7, 8, 9, 10, 11, 12, 13, 14, 15, 16, 17, 18, 19, 20, 21, 22, 23, 24, 25, 26, 27, 28, 29, 30, 31, 32, 33, 34, 35, 36, 37, 38, 39, 40, 41, 42, 43, 44, 45, 46, 47, 48, 49, 50, 51, 52, 53, 54, 55, 56, 57, 58, 59])]⟩
noncomputable def i7 : FnI E := ⟨Try.f7, []⟩
noncomputable def i8 : FnI E := ⟨Try.f8, []⟩
noncomputable def i9 : FnI E := ⟨Try.f9, [(5, [14, 15, 16, 17, 18, 19, 20, 21, 22, 23, 24, 25, 26, 27, 28, 29, 30, 31, 32, 33, 34, 35, 39, 40, 41, 42, 43, 44, 45, 46, 47, 48, 49, 50, 51, 52, 53, 54, 55, 56, 57, 58, 59, 60, 61, 62, 63, 64, 65, 66, 67, 68, 69, 70, 71])]⟩
noncomputable def i10 : FnI E := ⟨Try.f10, []⟩
noncomputable def i11 : FnI E := ⟨Try.f11, [(2, [9, 10, 11, 12, 13, 14])]⟩
noncomputable def i12 : FnI E := ⟨Try.f12, []⟩
noncomputable def i13 : FnI E := ⟨Try.f13, [(2, [3, 4, 8, 9, 10, 11, 12, 13, 14, 15, 16, 17, 18, 19, 20, 21, 22, 23, 24, 25, 26, 27, 28, 29, 30, 31, 32, 33, 34, 35, 36, 37, 38, 39, 40, 41, 42, 43])]⟩
noncomputable def i14 : FnI E := ⟨Try.f14, []⟩
noncomputable def i15 : FnI E := ⟨Try.f15, []⟩
noncomputable def i16 : FnI E := ⟨Try.f16, []⟩
noncomputable def i17 : FnI E := ⟨Try.f17, [(4, [6, 7, 8, 9, 10, 11, 12, 13, 14, 15, 16, 17, 18, 19, 20, 21, 22, 23, 24, 25, 26, 27, 28, 29, 30, 31, 32, 33, 34, 35, 36, 37, 38, 39, 40, 41, 42, 43, 44, 45, 46, 47, 48, 49, 50, 51, 52, 53, 54, 55, 56, 57, 58, 59, 60, 61, 62, 63, 64, 65, 66, 67])]⟩
noncomputable def i18 : FnI E := ⟨Try.f18, [(3, [9, 10, 11, 12, 13, 14, 15, 16, 17, 18, 19, 20, 21, 22, 23, 24, 25, 26, 27, 28, 29, 30, 31, 32, 33, 34, 35, 36, 37])]⟩
noncomputable def i19 : FnI E := ⟨Try.f19, []⟩
noncomputable def i20 : FnI E := ⟨Try.f20, [(5, [15, 16, 17, 18, 19, 20, 21, 22, 23, 24, 25, 26, 27, 28, 29, 30, 31, 32, 33, 34, 35, 36, 37, 38, 39, 40, 41, 42, 43, 44, 45, 46, 47, 48, 49, 50, 51, 52, 53, 54, 55, 56, 57, 58, 59, 60, 61, 62, 63, 64, 65, 66, 67, 68, 69, 70, 71, 72, 73, 74, 75, 76, 77, 78, 79, 80, 81, 82, 83, 84, 85, 86, 87, 88, 89, 90, 91, 92, 93, 94, 95, 96, 97, 98, 99, 100, 101, 102, 103, 104, 105, 106, 107, 108, 109, 110, 111, 112, 113, 114, 115, 116, 117, 118, 119, 120, 121, 122, 123, 124, 125, 126, 127, 128, 129]), (15, [17, 18, 19, 20, 21, 22, 66, 67, 68, 69, 70, 71, 72, 73, 74, 75, 76, 77, 78, 79, 80, 81, 82, 83, 84, 85, 86, 87, 88])]⟩
noncomputable def i21 : FnI E := ⟨Try.f21, [(3, [13, 14, 15, 16, 17, 18, 19, 20, 21, 22, 23, 24, 25, 26, 27, 28, 29, 30, 31, 32, 33, 34, 35, 36, 37, 38, 39, 40, 41, 42, 43, 44, 45])]⟩
noncomputable def i22 : FnI E := ⟨Try.f22, [(2, [4, 5, 6, 7, 8, 9, 10, 11, 12, 13, 14, 15, 16, 17, 18, 19])]⟩
noncomputable def i23 : FnI E := ⟨Try.f23, []⟩
noncomputable def i24 : FnI E := ⟨Try.f24, []⟩
noncomputable def i25 : FnI E := ⟨Try.f25, [(3, [4, 5, 6, 7, 11, 12, 13, 14, 15, 16, 17, 18, 19, 20, 21, 22])]⟩
noncomputable def i26 : FnI E := ⟨Try.f26, []⟩
noncomputable def i27 : FnI E := ⟨Try.f27, []⟩
noncomputable def i28 : FnI E := ⟨Try.f28, [(2, [3, 4, 8, 9, 10, 11, 12, 13, 14, 15, 16, 17, 18, 19, 20, 21, 22, 23, 24, 25, 26, 27, 28])]⟩
noncomputable def i29 : FnI E := ⟨Try.f29, []⟩
noncomputable def i30 : FnI E := ⟨Try.f30, [(3, [9, 10, 11, 12, 13, 14, 15, 16, 17, 18, 19, 20, 21, 22, 23, 24, 25, 26, 27, 28, 29, 30])]⟩
noncomputable def i31 : FnI E := ⟨Try.f31, []⟩
noncomputable def i32 : FnI E := ⟨Try.f32, [(5, [7, 8, 9, 10, 11, 12, 13, 14, 15, 16, 17, 18, 19, 20, 21, 22, 23, 24, 25, 26, 27, 28, 29, 30, 31, 32, 33, 34, 35])]⟩
noncomputable def i33 : FnI E := ⟨Try.f33, []⟩
noncomputable def i34 : FnI E := ⟨Try.f34, [(4, [7, 8, 9, 10, 11, 12, 13, 14, 18, 19, 20, 21, 22, 23, 24, 25, 26, 27, 28, 29, 30, 31])]⟩
noncomputable def i35 : FnI E := ⟨Try.f35, []⟩
noncomputable def i36 : FnI E := ⟨Try.f36, [(4, [5, 6, 7, 8, 9, 10, 11, 14, 15, 16, 17, 18, 19, 20, 21, 22, 23, 24, 25])]⟩
noncomputable def i37 : FnI E := ⟨Try.f37, [(4, [6, 7, 8, 9, 10, 11, 12, 13, 14, 15, 16, 17, 18, 19, 20, 21, 22, 23, 24, 25])]⟩
noncomputable def i38 : FnI E := ⟨Try.f38, [(3, [7, 8, 9, 10, 11, 12, 13, 14, 15, 16, 17, 18, 19, 20])]⟩
noncomputable def i39 : FnI E := ⟨Try.f39, [(2, [4, 5, 6, 7, 8, 9, 10, 11, 12, 13, 14, 15, 16, 17, 18, 19, 20, 21, 22, 23, 24, 25, 26, 27, 28, 29, 30])]⟩
noncomputable def i40 : FnI E := ⟨Try.f40, []⟩
noncomputable def i41 : FnI E := ⟨Try.f41, []⟩
noncomputable def i42 : FnI E := ⟨Try.f42, []⟩
noncomputable def i43 : FnI E := ⟨Try.f43, []⟩
noncomputable def i44 : FnI E := ⟨Try.f44, [(3, [11, 12, 13, 14, 15, 16, 17, 18, 19, 20, 21, 22, 23, 24, 25, 26, 27, 28, 29, 30, 31, 32, 33, 34])]⟩
noncomputable def i45 : FnI E := ⟨Try.f45, []⟩
noncomputable def i46 : FnI E := ⟨Try.f46, []⟩
noncomputable def i47 : FnI E := ⟨Try.f47, []⟩
noncomputable def i48 : FnI E := ⟨Try.f48, []⟩
noncomputable def i50 : FnI E := ⟨Try.f50, []⟩
noncomputable def i51 : FnI E := ⟨Try.f51, [(2, [5, 6, 9, 10, 11, 12, 13, 14, 15, 16, 17, 18])]⟩
noncomputable def i52 : FnI E := ⟨Try.f52, []⟩
noncomputable def i53 : FnI E := ⟨Try.f53, []⟩
noncomputable def i54 : FnI E := ⟨Try.f54, [(1, [4, 5, 6, 7, 8, 9, 10, 11, 12, 13, 14, 15, 16, 17, 18, 19, 20, 21, 22, 23, 24, 25, 26, 27])]⟩
noncomputable def fnTab : Nat → Option (FnI E)
  | 2 => some i2
  | 3 => some i3
  | 4 => some i4
  | 5 => some i5
  | 6 => some i6
  | 7 => some i7
  | 8 => some i8
  | 9 => some i9
  | 10 => some i10
  | 11 => some i11
  | 12 => some i12
  | 13 => some i13
  | 14 => some i14
  | 15 => some i15
  | 16 => some i16
  | 17 => some i17
  | 18 => some i18
  | 19 => some i19
  | 20 => some i20
  | 21 => some i21
  | 22 => some i22
  | 23 => some i23
  | 24 => some i24
  | 25 => some i25
  | 26 => some i26
  | 27 => some i27
  | 28 => some i28
  | 29 => some i29
  | 30 => some i30
  | 31 => some i31
  | 32 => some i32
  | 33 => some i33
  | 34 => some i34
  | 35 => some i35
  | 36 => some i36
  | 37 => some i37
  | 38 => some i38
  | 39 => some i39
  | 40 => some i40
  | 41 => some i41
  | 42 => some i42
  | 43 => some i43
  | 44 => some i44
  | 45 => some i45
  | 46 => some i46
  | 47 => some i47
  | 48 => some i48
  | 50 => some i50
  | 51 => some i51
  | 52 => some i52
  | 53 => some i53
  | 54 => some i54
  | _ => none
end Go.Proofs.Ytgplkdcibahofaa.Ev
