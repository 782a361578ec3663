import Derived.Test.YtaibfjipombilaaAb24
import Derived.Laws.Closers25b
import Derived.Test.YtaibfjipombilaaRows
set_option linter.unusedSimpArgs false
set_option linter.unusedVariables false
set_option linter.unusedSectionVars false
/- Facts about the types of this program. (Written by types.py.) -/
set_option maxRecDepth 20000
namespace Go.Proofs.Ytaibfjipombilaa.B
open Go Go.Ab
/-! 2: int64 -/
@[simp] theorem u2 : Try.prog.underlying 2 = some (TypeDesc.int IntKind.i64) := by kernel_rfl
@[simp] theorem z2 : sizeOf? Try.prog 2 = some 1 := by kernel_rfl
@[simp] theorem v2 : zeroV Try.prog 2 = some [V.int IntKind.i64 0] := by kernel_rfl
@[simp] theorem g2 (cs : List V) (off : Nat) : getV Try.prog 2 cs off = cs[off]? := getV_flat (by kernel_rfl) (by kernel_rfl)
@[simp] theorem f2 {n : Nat} (h : n * 8 < 140737488355328) : fits Try.prog 2 n = true := fits_of (sz := 1) (b := 8) (by kernel_rfl) (by decide) (by decide) h
/-! 3: int -/
@[simp] theorem u3 : Try.prog.underlying 3 = some (TypeDesc.int IntKind.i64) := by kernel_rfl
@[simp] theorem z3 : sizeOf? Try.prog 3 = some 1 := by kernel_rfl
@[simp] theorem v3 : zeroV Try.prog 3 = some [V.int IntKind.i64 0] := by kernel_rfl
@[simp] theorem g3 (cs : List V) (off : Nat) : getV Try.prog 3 cs off = cs[off]? := getV_flat (by kernel_rfl) (by kernel_rfl)
@[simp] theorem f3 {n : Nat} (h : n * 8 < 140737488355328) : fits Try.prog 3 n = true := fits_of (sz := 1) (b := 8) (by kernel_rfl) (by decide) (by decide) h
/-! 4: bool -/
@[simp] theorem u4 : Try.prog.underlying 4 = some TypeDesc.bool := by kernel_rfl
@[simp] theorem z4 : sizeOf? Try.prog 4 = some 1 := by kernel_rfl
@[simp] theorem v4 : zeroV Try.prog 4 = some [V.bool false] := by kernel_rfl
@[simp] theorem g4 (cs : List V) (off : Nat) : getV Try.prog 4 cs off = cs[off]? := getV_flat (by kernel_rfl) (by kernel_rfl)
@[simp] theorem f4 {n : Nat} (h : n * 1 < 140737488355328) : fits Try.prog 4 n = true := fits_of (sz := 1) (b := 1) (by kernel_rfl) (by decide) (by decide) h
/-! 5: uint8 -/
@[simp] theorem u5 : Try.prog.underlying 5 = some (TypeDesc.int IntKind.u8) := by kernel_rfl
@[simp] theorem z5 : sizeOf? Try.prog 5 = some 1 := by kernel_rfl
@[simp] theorem v5 : zeroV Try.prog 5 = some [V.int IntKind.u8 0] := by kernel_rfl
@[simp] theorem g5 (cs : List V) (off : Nat) : getV Try.prog 5 cs off = cs[off]? := getV_flat (by kernel_rfl) (by kernel_rfl)
@[simp] theorem f5 {n : Nat} (h : n * 1 < 140737488355328) : fits Try.prog 5 n = true := fits_of (sz := 1) (b := 1) (by kernel_rfl) (by decide) (by decide) h
/-! 9: string -/
@[simp] theorem u9 : Try.prog.underlying 9 = some TypeDesc.string := by kernel_rfl
@[simp] theorem z9 : sizeOf? Try.prog 9 = some 1 := by kernel_rfl
@[simp] theorem v9 : zeroV Try.prog 9 = some [V.str { data := #[] }] := by kernel_rfl
@[simp] theorem g9 (cs : List V) (off : Nat) : getV Try.prog 9 cs off = cs[off]? := getV_flat (by kernel_rfl) (by kernel_rfl)
@[simp] theorem f9 {n : Nat} (h : n * 16 < 140737488355328) : fits Try.prog 9 n = true := fits_of (sz := 1) (b := 16) (by kernel_rfl) (by decide) (by decide) h
/-! 12: uintptr -/
@[simp] theorem u12 : Try.prog.underlying 12 = some (TypeDesc.int IntKind.u64) := by kernel_rfl
@[simp] theorem z12 : sizeOf? Try.prog 12 = some 1 := by kernel_rfl
@[simp] theorem v12 : zeroV Try.prog 12 = some [V.int IntKind.u64 0] := by kernel_rfl
@[simp] theorem g12 (cs : List V) (off : Nat) : getV Try.prog 12 cs off = cs[off]? := getV_flat (by kernel_rfl) (by kernel_rfl)
@[simp] theorem f12 {n : Nat} (h : n * 8 < 140737488355328) : fits Try.prog 12 n = true := fits_of (sz := 1) (b := 8) (by kernel_rfl) (by decide) (by decide) h
/-! 13: struct ( msg string; addr uintptr ) -/
@[simp] theorem u13 : Try.prog.underlying 13 = some (TypeDesc.struct #[{ name := "msg", type := 9, offset := 0, embedded := false, tag := "", pkgPath := "runtime", byteOffset := 0 }, { name := "addr", type := 12, offset := 1, embedded := false, tag := "", pkgPath := "runtime", byteOffset := 16 }]) := by kernel_rfl
@[simp] theorem z13 : sizeOf? Try.prog 13 = some 2 := by kernel_rfl
@[simp] theorem v13 : zeroV Try.prog 13 = some [V.str { data := #[] }, V.int IntKind.u64 0] := by kernel_rfl
@[simp] theorem g13 (cs : List V) (off : Nat) : getV Try.prog 13 cs off = if off + 2 ≤ cs.length then some (.agg ((cs.drop off).take 2)) else none := getV_agg (by kernel_rfl) (by kernel_rfl) (by kernel_rfl)
@[simp] theorem f13 {n : Nat} (h : n * 24 < 140737488355328) : fits Try.prog 13 n = true := fits_of (sz := 2) (b := 24) (by kernel_rfl) (by decide) (by decide) h
@[simp] theorem s13 : sized Try.prog 13 = true := by kernel_rfl
@[simp] theorem p13_0 : placeOf Try.prog 13 0 = some (0, 1) := by kernel_rfl
@[simp] theorem p13_1 : placeOf Try.prog 13 1 = some (1, 1) := by kernel_rfl
/-! 21: int32 -/
@[simp] theorem u21 : Try.prog.underlying 21 = some (TypeDesc.int IntKind.i32) := by kernel_rfl
@[simp] theorem z21 : sizeOf? Try.prog 21 = some 1 := by kernel_rfl
@[simp] theorem v21 : zeroV Try.prog 21 = some [V.int IntKind.i32 0] := by kernel_rfl
@[simp] theorem g21 (cs : List V) (off : Nat) : getV Try.prog 21 cs off = cs[off]? := getV_flat (by kernel_rfl) (by kernel_rfl)
@[simp] theorem f21 {n : Nat} (h : n * 4 < 140737488355328) : fits Try.prog 21 n = true := fits_of (sz := 1) (b := 4) (by kernel_rfl) (by decide) (by decide) h
/-! 22: []uint8 -/
@[simp] theorem u22 : Try.prog.underlying 22 = some (TypeDesc.slice 5) := by kernel_rfl
@[simp] theorem z22 : sizeOf? Try.prog 22 = some 1 := by kernel_rfl
@[simp] theorem v22 : zeroV Try.prog 22 = some [V.nils] := by kernel_rfl
@[simp] theorem g22 (cs : List V) (off : Nat) : getV Try.prog 22 cs off = cs[off]? := getV_flat (by kernel_rfl) (by kernel_rfl)
@[simp] theorem f22 {n : Nat} (h : n * 24 < 140737488355328) : fits Try.prog 22 n = true := fits_of (sz := 1) (b := 24) (by kernel_rfl) (by decide) (by decide) h
/-! 23: struct ( Null bool; Int int64; B []uint8 ) -/
@[simp] theorem u23 : Try.prog.underlying 23 = some (TypeDesc.struct #[{ name := "Null", type := 4, offset := 0, embedded := false, tag := "", pkgPath := "", byteOffset := 0 }, { name := "Int", type := 2, offset := 1, embedded := false, tag := "", pkgPath := "", byteOffset := 8 }, { name := "B", type := 22, offset := 2, embedded := false, tag := "", pkgPath := "", byteOffset := 16 }]) := by kernel_rfl
@[simp] theorem z23 : sizeOf? Try.prog 23 = some 3 := by kernel_rfl
@[simp] theorem v23 : zeroV Try.prog 23 = some [V.bool false, V.int IntKind.i64 0, V.nils] := by kernel_rfl
@[simp] theorem g23 (cs : List V) (off : Nat) : getV Try.prog 23 cs off = if off + 3 ≤ cs.length then some (.agg ((cs.drop off).take 3)) else none := getV_agg (by kernel_rfl) (by kernel_rfl) (by kernel_rfl)
@[simp] theorem f23 {n : Nat} (h : n * 40 < 140737488355328) : fits Try.prog 23 n = true := fits_of (sz := 3) (b := 40) (by kernel_rfl) (by decide) (by decide) h
@[simp] theorem s23 : sized Try.prog 23 = true := by kernel_rfl
@[simp] theorem p23_0 : placeOf Try.prog 23 0 = some (0, 1) := by kernel_rfl
@[simp] theorem p23_1 : placeOf Try.prog 23 1 = some (1, 1) := by kernel_rfl
@[simp] theorem p23_2 : placeOf Try.prog 23 2 = some (2, 1) := by kernel_rfl
/-! 24: api.Cell = stoa/api.Cell -/
@[simp] theorem u24 : Try.prog.underlying 24 = some (TypeDesc.struct #[{ name := "Null", type := 4, offset := 0, embedded := false, tag := "", pkgPath := "", byteOffset := 0 }, { name := "Int", type := 2, offset := 1, embedded := false, tag := "", pkgPath := "", byteOffset := 8 }, { name := "B", type := 22, offset := 2, embedded := false, tag := "", pkgPath := "", byteOffset := 16 }]) := by kernel_rfl
@[simp] theorem z24 : sizeOf? Try.prog 24 = some 3 := by kernel_rfl
@[simp] theorem v24 : zeroV Try.prog 24 = some [V.bool false, V.int IntKind.i64 0, V.nils] := by kernel_rfl
@[simp] theorem g24 (cs : List V) (off : Nat) : getV Try.prog 24 cs off = if off + 3 ≤ cs.length then some (.agg ((cs.drop off).take 3)) else none := getV_agg (by kernel_rfl) (by kernel_rfl) (by kernel_rfl)
@[simp] theorem f24 {n : Nat} (h : n * 40 < 140737488355328) : fits Try.prog 24 n = true := fits_of (sz := 3) (b := 40) (by kernel_rfl) (by decide) (by decide) h
@[simp] theorem s24 : sized Try.prog 24 = true := by kernel_rfl
@[simp] theorem p24_0 : placeOf Try.prog 24 0 = some (0, 1) := by kernel_rfl
@[simp] theorem p24_1 : placeOf Try.prog 24 1 = some (1, 1) := by kernel_rfl
@[simp] theorem p24_2 : placeOf Try.prog 24 2 = some (2, 1) := by kernel_rfl
/-! 27: api.Errno = stoa/api.Errno -/
@[simp] theorem u27 : Try.prog.underlying 27 = some (TypeDesc.int IntKind.i64) := by kernel_rfl
@[simp] theorem z27 : sizeOf? Try.prog 27 = some 1 := by kernel_rfl
@[simp] theorem v27 : zeroV Try.prog 27 = some [V.int IntKind.i64 0] := by kernel_rfl
@[simp] theorem g27 (cs : List V) (off : Nat) : getV Try.prog 27 cs off = cs[off]? := getV_flat (by kernel_rfl) (by kernel_rfl)
@[simp] theorem f27 {n : Nat} (h : n * 8 < 140737488355328) : fits Try.prog 27 n = true := fits_of (sz := 1) (b := 8) (by kernel_rfl) (by decide) (by decide) h
/-! 59: uint64 -/
@[simp] theorem u59 : Try.prog.underlying 59 = some (TypeDesc.int IntKind.u64) := by kernel_rfl
@[simp] theorem z59 : sizeOf? Try.prog 59 = some 1 := by kernel_rfl
@[simp] theorem v59 : zeroV Try.prog 59 = some [V.int IntKind.u64 0] := by kernel_rfl
@[simp] theorem g59 (cs : List V) (off : Nat) : getV Try.prog 59 cs off = cs[off]? := getV_flat (by kernel_rfl) (by kernel_rfl)
@[simp] theorem f59 {n : Nat} (h : n * 8 < 140737488355328) : fits Try.prog 59 n = true := fits_of (sz := 1) (b := 8) (by kernel_rfl) (by decide) (by decide) h
/-! 72: uint16 -/
@[simp] theorem u72 : Try.prog.underlying 72 = some (TypeDesc.int IntKind.u16) := by kernel_rfl
@[simp] theorem z72 : sizeOf? Try.prog 72 = some 1 := by kernel_rfl
@[simp] theorem v72 : zeroV Try.prog 72 = some [V.int IntKind.u16 0] := by kernel_rfl
@[simp] theorem g72 (cs : List V) (off : Nat) : getV Try.prog 72 cs off = cs[off]? := getV_flat (by kernel_rfl) (by kernel_rfl)
@[simp] theorem f72 {n : Nat} (h : n * 2 < 140737488355328) : fits Try.prog 72 n = true := fits_of (sz := 1) (b := 2) (by kernel_rfl) (by decide) (by decide) h
/-! 73: uint -/
@[simp] theorem u73 : Try.prog.underlying 73 = some (TypeDesc.int IntKind.u64) := by kernel_rfl
@[simp] theorem z73 : sizeOf? Try.prog 73 = some 1 := by kernel_rfl
@[simp] theorem v73 : zeroV Try.prog 73 = some [V.int IntKind.u64 0] := by kernel_rfl
@[simp] theorem g73 (cs : List V) (off : Nat) : getV Try.prog 73 cs off = cs[off]? := getV_flat (by kernel_rfl) (by kernel_rfl)
@[simp] theorem f73 {n : Nat} (h : n * 8 < 140737488355328) : fits Try.prog 73 n = true := fits_of (sz := 1) (b := 8) (by kernel_rfl) (by decide) (by decide) h
/-! 76: []int -/
@[simp] theorem u76 : Try.prog.underlying 76 = some (TypeDesc.slice 3) := by kernel_rfl
@[simp] theorem z76 : sizeOf? Try.prog 76 = some 1 := by kernel_rfl
@[simp] theorem v76 : zeroV Try.prog 76 = some [V.nils] := by kernel_rfl
@[simp] theorem g76 (cs : List V) (off : Nat) : getV Try.prog 76 cs off = cs[off]? := getV_flat (by kernel_rfl) (by kernel_rfl)
@[simp] theorem f76 {n : Nat} (h : n * 24 < 140737488355328) : fits Try.prog 76 n = true := fits_of (sz := 1) (b := 24) (by kernel_rfl) (by decide) (by decide) h
/-! 78: int8 -/
@[simp] theorem u78 : Try.prog.underlying 78 = some (TypeDesc.int IntKind.i8) := by kernel_rfl
@[simp] theorem z78 : sizeOf? Try.prog 78 = some 1 := by kernel_rfl
@[simp] theorem v78 : zeroV Try.prog 78 = some [V.int IntKind.i8 0] := by kernel_rfl
@[simp] theorem g78 (cs : List V) (off : Nat) : getV Try.prog 78 cs off = cs[off]? := getV_flat (by kernel_rfl) (by kernel_rfl)
@[simp] theorem f78 {n : Nat} (h : n * 1 < 140737488355328) : fits Try.prog 78 n = true := fits_of (sz := 1) (b := 1) (by kernel_rfl) (by decide) (by decide) h
/-! 79: int16 -/
@[simp] theorem u79 : Try.prog.underlying 79 = some (TypeDesc.int IntKind.i16) := by kernel_rfl
@[simp] theorem z79 : sizeOf? Try.prog 79 = some 1 := by kernel_rfl
@[simp] theorem v79 : zeroV Try.prog 79 = some [V.int IntKind.i16 0] := by kernel_rfl
@[simp] theorem g79 (cs : List V) (off : Nat) : getV Try.prog 79 cs off = cs[off]? := getV_flat (by kernel_rfl) (by kernel_rfl)
@[simp] theorem f79 {n : Nat} (h : n * 2 < 140737488355328) : fits Try.prog 79 n = true := fits_of (sz := 1) (b := 2) (by kernel_rfl) (by decide) (by decide) h
/-! 87: uint32 -/
@[simp] theorem u87 : Try.prog.underlying 87 = some (TypeDesc.int IntKind.u32) := by kernel_rfl
@[simp] theorem z87 : sizeOf? Try.prog 87 = some 1 := by kernel_rfl
@[simp] theorem v87 : zeroV Try.prog 87 = some [V.int IntKind.u32 0] := by kernel_rfl
@[simp] theorem g87 (cs : List V) (off : Nat) : getV Try.prog 87 cs off = cs[off]? := getV_flat (by kernel_rfl) (by kernel_rfl)
@[simp] theorem f87 {n : Nat} (h : n * 4 < 140737488355328) : fits Try.prog 87 n = true := fits_of (sz := 1) (b := 4) (by kernel_rfl) (by decide) (by decide) h
/-! 91: *uint8 -/
@[simp] theorem u91 : Try.prog.underlying 91 = some (TypeDesc.pointer 5) := by kernel_rfl
@[simp] theorem z91 : sizeOf? Try.prog 91 = some 1 := by kernel_rfl
@[simp] theorem v91 : zeroV Try.prog 91 = some [V.nilp] := by kernel_rfl
@[simp] theorem g91 (cs : List V) (off : Nat) : getV Try.prog 91 cs off = cs[off]? := getV_flat (by kernel_rfl) (by kernel_rfl)
@[simp] theorem f91 {n : Nat} (h : n * 8 < 140737488355328) : fits Try.prog 91 n = true := fits_of (sz := 1) (b := 8) (by kernel_rfl) (by decide) (by decide) h
/-! 96: unsafe.Pointer -/
@[simp] theorem u96 : Try.prog.underlying 96 = some TypeDesc.unsafePointer := by kernel_rfl
@[simp] theorem z96 : sizeOf? Try.prog 96 = some 1 := by kernel_rfl
@[simp] theorem v96 : zeroV Try.prog 96 = some [V.nilp] := by kernel_rfl
@[simp] theorem g96 (cs : List V) (off : Nat) : getV Try.prog 96 cs off = cs[off]? := getV_flat (by kernel_rfl) (by kernel_rfl)
@[simp] theorem f96 {n : Nat} (h : n * 8 < 140737488355328) : fits Try.prog 96 n = true := fits_of (sz := 1) (b := 8) (by kernel_rfl) (by decide) (by decide) h
end Go.Proofs.Ytaibfjipombilaa.B
