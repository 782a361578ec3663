import Derived.Test.YtjjldepikokogaaAb24
import Derived.Laws.Closers25b
import Derived.Test.YtjjldepikokogaaRows
set_option linter.unusedSimpArgs false
set_option linter.unusedVariables false
set_option linter.unusedSectionVars false
/- Facts about the types of this program. (Written by types.py.) -/
set_option maxRecDepth 20000
namespace Go.Proofs.Ytjjldepikokogaa.B
open Go Go.Ab
/-! 2: int64 -/
@[simp] theorem u2 : Try.prog.underlying 2 = some (TypeDesc.int IntKind.i64) := by kernel_rfl
@[simp] theorem z2 : sizeOf? Try.prog 2 = some 1 := by kernel_rfl
@[simp] theorem v2 : zeroV Try.prog 2 = some [V.int IntKind.i64 0] := by kernel_rfl
@[simp] theorem g2 (cs : List V) (off : Nat) : getV Try.prog 2 cs off = cs[off]? := getV_flat (by kernel_rfl) (by kernel_rfl)
@[simp] theorem f2 {n : Nat} (h : n * 8 < 140737488355328) : fits Try.prog 2 n = true := fits_of (sz := 1) (b := 8) (by kernel_rfl) (by decide) (by decide) h
/-! 3: int -/
@[simp] theorem u3 : Try.prog.underlying 3 = some (TypeDesc.int IntKind.i64) := by kernel_rfl
@[simp] theorem z3 : sizeOf? Try.prog 3 = some 1 := by kernel_rfl
@[simp] theorem v3 : zeroV Try.prog 3 = some [V.int IntKind.i64 0] := by kernel_rfl
@[simp] theorem g3 (cs : List V) (off : Nat) : getV Try.prog 3 cs off = cs[off]? := getV_flat (by kernel_rfl) (by kernel_rfl)
@[simp] theorem f3 {n : Nat} (h : n * 8 < 140737488355328) : fits Try.prog 3 n = true := fits_of (sz := 1) (b := 8) (by kernel_rfl) (by decide) (by decide) h
/-! 4: bool -/
@[simp] theorem u4 : Try.prog.underlying 4 = some TypeDesc.bool := by kernel_rfl
@[simp] theorem z4 : sizeOf? Try.prog 4 = some 1 := by kernel_rfl
@[simp] theorem v4 : zeroV Try.prog 4 = some [V.bool false] := by kernel_rfl
@[simp] theorem g4 (cs : List V) (off : Nat) : getV Try.prog 4 cs off = cs[off]? := getV_flat (by kernel_rfl) (by kernel_rfl)
@[simp] theorem f4 {n : Nat} (h : n * 1 < 140737488355328) : fits Try.prog 4 n = true := fits_of (sz := 1) (b := 1) (by kernel_rfl) (by decide) (by decide) h
/-! 5: uint8 -/
@[simp] theorem u5 : Try.prog.underlying 5 = some (TypeDesc.int IntKind.u8) := by kernel_rfl
@[simp] theorem z5 : sizeOf? Try.prog 5 = some 1 := by kernel_rfl
@[simp] theorem v5 : zeroV Try.prog 5 = some [V.int IntKind.u8 0] := by kernel_rfl
@[simp] theorem g5 (cs : List V) (off : Nat) : getV Try.prog 5 cs off = cs[off]? := getV_flat (by kernel_rfl) (by kernel_rfl)
@[simp] theorem f5 {n : Nat} (h : n * 1 < 140737488355328) : fits Try.prog 5 n = true := fits_of (sz := 1) (b := 1) (by kernel_rfl) (by decide) (by decide) h
/-! 9: string -/
@[simp] theorem u9 : Try.prog.underlying 9 = some TypeDesc.string := by kernel_rfl
@[simp] theorem z9 : sizeOf? Try.prog 9 = some 1 := by kernel_rfl
@[simp] theorem v9 : zeroV Try.prog 9 = some [V.str { data := #[] }] := by kernel_rfl
@[simp] theorem g9 (cs : List V) (off : Nat) : getV Try.prog 9 cs off = cs[off]? := getV_flat (by kernel_rfl) (by kernel_rfl)
@[simp] theorem f9 {n : Nat} (h : n * 16 < 140737488355328) : fits Try.prog 9 n = true := fits_of (sz := 1) (b := 16) (by kernel_rfl) (by decide) (by decide) h
/-! 12: uintptr -/
@[simp] theorem u12 : Try.prog.underlying 12 = some (TypeDesc.int IntKind.u64) := by kernel_rfl
@[simp] theorem z12 : sizeOf? Try.prog 12 = some 1 := by kernel_rfl
@[simp] theorem v12 : zeroV Try.prog 12 = some [V.int IntKind.u64 0] := by kernel_rfl
@[simp] theorem g12 (cs : List V) (off : Nat) : getV Try.prog 12 cs off = cs[off]? := getV_flat (by kernel_rfl) (by kernel_rfl)
@[simp] theorem f12 {n : Nat} (h : n * 8 < 140737488355328) : fits Try.prog 12 n = true := fits_of (sz := 1) (b := 8) (by kernel_rfl) (by decide) (by decide) h
/-! 13: struct ( msg string; addr uintptr ) -/
@[simp] theorem u13 : Try.prog.underlying 13 = some (TypeDesc.struct #[{ name := "msg", type := 9, offset := 0, embedded := false, tag := "", pkgPath := "runtime", byteOffset := 0 }, { name := "addr", type := 12, offset := 1, embedded := false, tag := "", pkgPath := "runtime", byteOffset := 16 }]) := by kernel_rfl
@[simp] theorem z13 : sizeOf? Try.prog 13 = some 2 := by kernel_rfl
@[simp] theorem v13 : zeroV Try.prog 13 = some [V.str { data := #[] }, V.int IntKind.u64 0] := by kernel_rfl
@[simp] theorem g13 (cs : List V) (off : Nat) : getV Try.prog 13 cs off = if off + 2 ≤ cs.length then some (.agg ((cs.drop off).take 2)) else none := getV_agg (by kernel_rfl) (by kernel_rfl) (by kernel_rfl)
@[simp] theorem f13 {n : Nat} (h : n * 24 < 140737488355328) : fits Try.prog 13 n = true := fits_of (sz := 2) (b := 24) (by kernel_rfl) (by decide) (by decide) h
@[simp] theorem s13 : sized Try.prog 13 = true := by kernel_rfl
@[simp] theorem p13_0 : placeOf Try.prog 13 0 = some (0, 1) := by kernel_rfl
@[simp] theorem p13_1 : placeOf Try.prog 13 1 = some (1, 1) := by kernel_rfl
/-! 21: int32 -/
@[simp] theorem u21 : Try.prog.underlying 21 = some (TypeDesc.int IntKind.i32) := by kernel_rfl
@[simp] theorem z21 : sizeOf? Try.prog 21 = some 1 := by kernel_rfl
@[simp] theorem v21 : zeroV Try.prog 21 = some [V.int IntKind.i32 0] := by kernel_rfl
@[simp] theorem g21 (cs : List V) (off : Nat) : getV Try.prog 21 cs off = cs[off]? := getV_flat (by kernel_rfl) (by kernel_rfl)
@[simp] theorem f21 {n : Nat} (h : n * 4 < 140737488355328) : fits Try.prog 21 n = true := fits_of (sz := 1) (b := 4) (by kernel_rfl) (by decide) (by decide) h
/-! 22: [][]uint8 -/
@[simp] theorem u22 : Try.prog.underlying 22 = some (TypeDesc.slice 25) := by kernel_rfl
@[simp] theorem z22 : sizeOf? Try.prog 22 = some 1 := by kernel_rfl
@[simp] theorem v22 : zeroV Try.prog 22 = some [V.nils] := by kernel_rfl
@[simp] theorem g22 (cs : List V) (off : Nat) : getV Try.prog 22 cs off = cs[off]? := getV_flat (by kernel_rfl) (by kernel_rfl)
@[simp] theorem f22 {n : Nat} (h : n * 24 < 140737488355328) : fits Try.prog 22 n = true := fits_of (sz := 1) (b := 24) (by kernel_rfl) (by decide) (by decide) h
/-! 25: []uint8 -/
@[simp] theorem u25 : Try.prog.underlying 25 = some (TypeDesc.slice 5) := by kernel_rfl
@[simp] theorem z25 : sizeOf? Try.prog 25 = some 1 := by kernel_rfl
@[simp] theorem v25 : zeroV Try.prog 25 = some [V.nils] := by kernel_rfl
@[simp] theorem g25 (cs : List V) (off : Nat) : getV Try.prog 25 cs off = cs[off]? := getV_flat (by kernel_rfl) (by kernel_rfl)
@[simp] theorem f25 {n : Nat} (h : n * 24 < 140737488355328) : fits Try.prog 25 n = true := fits_of (sz := 1) (b := 24) (by kernel_rfl) (by decide) (by decide) h
/-! 26: api.Errno = stoa/api.Errno -/
@[simp] theorem u26 : Try.prog.underlying 26 = some (TypeDesc.int IntKind.i64) := by kernel_rfl
@[simp] theorem z26 : sizeOf? Try.prog 26 = some 1 := by kernel_rfl
@[simp] theorem v26 : zeroV Try.prog 26 = some [V.int IntKind.i64 0] := by kernel_rfl
@[simp] theorem g26 (cs : List V) (off : Nat) : getV Try.prog 26 cs off = cs[off]? := getV_flat (by kernel_rfl) (by kernel_rfl)
@[simp] theorem f26 {n : Nat} (h : n * 8 < 140737488355328) : fits Try.prog 26 n = true := fits_of (sz := 1) (b := 8) (by kernel_rfl) (by decide) (by decide) h
/-! 46: []int -/
@[simp] theorem u46 : Try.prog.underlying 46 = some (TypeDesc.slice 3) := by kernel_rfl
@[simp] theorem z46 : sizeOf? Try.prog 46 = some 1 := by kernel_rfl
@[simp] theorem v46 : zeroV Try.prog 46 = some [V.nils] := by kernel_rfl
@[simp] theorem g46 (cs : List V) (off : Nat) : getV Try.prog 46 cs off = cs[off]? := getV_flat (by kernel_rfl) (by kernel_rfl)
@[simp] theorem f46 {n : Nat} (h : n * 24 < 140737488355328) : fits Try.prog 46 n = true := fits_of (sz := 1) (b := 24) (by kernel_rfl) (by decide) (by decide) h
/-! 51: uint64 -/
@[simp] theorem u51 : Try.prog.underlying 51 = some (TypeDesc.int IntKind.u64) := by kernel_rfl
@[simp] theorem z51 : sizeOf? Try.prog 51 = some 1 := by kernel_rfl
@[simp] theorem v51 : zeroV Try.prog 51 = some [V.int IntKind.u64 0] := by kernel_rfl
@[simp] theorem g51 (cs : List V) (off : Nat) : getV Try.prog 51 cs off = cs[off]? := getV_flat (by kernel_rfl) (by kernel_rfl)
@[simp] theorem f51 {n : Nat} (h : n * 8 < 140737488355328) : fits Try.prog 51 n = true := fits_of (sz := 1) (b := 8) (by kernel_rfl) (by decide) (by decide) h
/-! 64: uint -/
@[simp] theorem u64 : Try.prog.underlying 64 = some (TypeDesc.int IntKind.u64) := by kernel_rfl
@[simp] theorem z64 : sizeOf? Try.prog 64 = some 1 := by kernel_rfl
@[simp] theorem v64 : zeroV Try.prog 64 = some [V.int IntKind.u64 0] := by kernel_rfl
@[simp] theorem g64 (cs : List V) (off : Nat) : getV Try.prog 64 cs off = cs[off]? := getV_flat (by kernel_rfl) (by kernel_rfl)
@[simp] theorem f64 {n : Nat} (h : n * 8 < 140737488355328) : fits Try.prog 64 n = true := fits_of (sz := 1) (b := 8) (by kernel_rfl) (by decide) (by decide) h
/-! 65: []uint64 -/
@[simp] theorem u65 : Try.prog.underlying 65 = some (TypeDesc.slice 51) := by kernel_rfl
@[simp] theorem z65 : sizeOf? Try.prog 65 = some 1 := by kernel_rfl
@[simp] theorem v65 : zeroV Try.prog 65 = some [V.nils] := by kernel_rfl
@[simp] theorem g65 (cs : List V) (off : Nat) : getV Try.prog 65 cs off = cs[off]? := getV_flat (by kernel_rfl) (by kernel_rfl)
@[simp] theorem f65 {n : Nat} (h : n * 24 < 140737488355328) : fits Try.prog 65 n = true := fits_of (sz := 1) (b := 24) (by kernel_rfl) (by decide) (by decide) h
/-! 74: uint32 -/
@[simp] theorem u74 : Try.prog.underlying 74 = some (TypeDesc.int IntKind.u32) := by kernel_rfl
@[simp] theorem z74 : sizeOf? Try.prog 74 = some 1 := by kernel_rfl
@[simp] theorem v74 : zeroV Try.prog 74 = some [V.int IntKind.u32 0] := by kernel_rfl
@[simp] theorem g74 (cs : List V) (off : Nat) : getV Try.prog 74 cs off = cs[off]? := getV_flat (by kernel_rfl) (by kernel_rfl)
@[simp] theorem f74 {n : Nat} (h : n * 4 < 140737488355328) : fits Try.prog 74 n = true := fits_of (sz := 1) (b := 4) (by kernel_rfl) (by decide) (by decide) h
/-! 78: *uint8 -/
@[simp] theorem u78 : Try.prog.underlying 78 = some (TypeDesc.pointer 5) := by kernel_rfl
@[simp] theorem z78 : sizeOf? Try.prog 78 = some 1 := by kernel_rfl
@[simp] theorem v78 : zeroV Try.prog 78 = some [V.nilp] := by kernel_rfl
@[simp] theorem g78 (cs : List V) (off : Nat) : getV Try.prog 78 cs off = cs[off]? := getV_flat (by kernel_rfl) (by kernel_rfl)
@[simp] theorem f78 {n : Nat} (h : n * 8 < 140737488355328) : fits Try.prog 78 n = true := fits_of (sz := 1) (b := 8) (by kernel_rfl) (by decide) (by decide) h
/-! 83: unsafe.Pointer -/
@[simp] theorem u83 : Try.prog.underlying 83 = some TypeDesc.unsafePointer := by kernel_rfl
@[simp] theorem z83 : sizeOf? Try.prog 83 = some 1 := by kernel_rfl
@[simp] theorem v83 : zeroV Try.prog 83 = some [V.nilp] := by kernel_rfl
@[simp] theorem g83 (cs : List V) (off : Nat) : getV Try.prog 83 cs off = cs[off]? := getV_flat (by kernel_rfl) (by kernel_rfl)
@[simp] theorem f83 {n : Nat} (h : n * 8 < 140737488355328) : fits Try.prog 83 n = true := fits_of (sz := 1) (b := 8) (by kernel_rfl) (by decide) (by decide) h
end Go.Proofs.Ytjjldepikokogaa.B
