import Derived.Test.YtpfkebjjbhnehaaAb24
import Derived.Laws.Closers25b
import Derived.Test.YtpfkebjjbhnehaaRows
set_option linter.unusedSimpArgs false
set_option linter.unusedVariables false
set_option linter.unusedSectionVars false
/- Facts about the types of this program. (Written by types.py.) -/
set_option maxRecDepth 20000
namespace Go.Proofs.Ytpfkebjjbhnehaa.B
open Go Go.Ab
/-! 2: int64 -/
@[simp] theorem u2 : Try.prog.underlying 2 = some (TypeDesc.int IntKind.i64) := by kernel_rfl
@[simp] theorem z2 : sizeOf? Try.prog 2 = some 1 := by kernel_rfl
@[simp] theorem v2 : zeroV Try.prog 2 = some [V.int IntKind.i64 0] := by kernel_rfl
@[simp] theorem g2 (cs : List V) (off : Nat) : getV Try.prog 2 cs off = cs[off]? := getV_flat (by kernel_rfl) (by kernel_rfl)
@[simp] theorem f2 {n : Nat} (h : n * 8 < 140737488355328) : fits Try.prog 2 n = true := fits_of (sz := 1) (b := 8) (by kernel_rfl) (by decide) (by decide) h
/-! 3: int -/
@[simp] theorem u3 : Try.prog.underlying 3 = some (TypeDesc.int IntKind.i64) := by kernel_rfl
@[simp] theorem z3 : sizeOf? Try.prog 3 = some 1 := by kernel_rfl
@[simp] theorem v3 : zeroV Try.prog 3 = some [V.int IntKind.i64 0] := by kernel_rfl
@[simp] theorem g3 (cs : List V) (off : Nat) : getV Try.prog 3 cs off = cs[off]? := getV_flat (by kernel_rfl) (by kernel_rfl)
@[simp] theorem f3 {n : Nat} (h : n * 8 < 140737488355328) : fits Try.prog 3 n = true := fits_of (sz := 1) (b := 8) (by kernel_rfl) (by decide) (by decide) h
/-! 4: bool -/
@[simp] theorem u4 : Try.prog.underlying 4 = some TypeDesc.bool := by kernel_rfl
@[simp] theorem z4 : sizeOf? Try.prog 4 = some 1 := by kernel_rfl
@[simp] theorem v4 : zeroV Try.prog 4 = some [V.bool false] := by kernel_rfl
@[simp] theorem g4 (cs : List V) (off : Nat) : getV Try.prog 4 cs off = cs[off]? := getV_flat (by kernel_rfl) (by kernel_rfl)
@[simp] theorem f4 {n : Nat} (h : n * 1 < 140737488355328) : fits Try.prog 4 n = true := fits_of (sz := 1) (b := 1) (by kernel_rfl) (by decide) (by decide) h
/-! 5: uint8 -/
@[simp] theorem u5 : Try.prog.underlying 5 = some (TypeDesc.int IntKind.u8) := by kernel_rfl
@[simp] theorem z5 : sizeOf? Try.prog 5 = some 1 := by kernel_rfl
@[simp] theorem v5 : zeroV Try.prog 5 = some [V.int IntKind.u8 0] := by kernel_rfl
@[simp] theorem g5 (cs : List V) (off : Nat) : getV Try.prog 5 cs off = cs[off]? := getV_flat (by kernel_rfl) (by kernel_rfl)
@[simp] theorem f5 {n : Nat} (h : n * 1 < 140737488355328) : fits Try.prog 5 n = true := fits_of (sz := 1) (b := 1) (by kernel_rfl) (by decide) (by decide) h
/-! 9: string -/
@[simp] theorem u9 : Try.prog.underlying 9 = some TypeDesc.string := by kernel_rfl
@[simp] theorem z9 : sizeOf? Try.prog 9 = some 1 := by kernel_rfl
@[simp] theorem v9 : zeroV Try.prog 9 = some [V.str { data := #[] }] := by kernel_rfl
@[simp] theorem g9 (cs : List V) (off : Nat) : getV Try.prog 9 cs off = cs[off]? := getV_flat (by kernel_rfl) (by kernel_rfl)
@[simp] theorem f9 {n : Nat} (h : n * 16 < 140737488355328) : fits Try.prog 9 n = true := fits_of (sz := 1) (b := 16) (by kernel_rfl) (by decide) (by decide) h
/-! 12: uintptr -/
@[simp] theorem u12 : Try.prog.underlying 12 = some (TypeDesc.int IntKind.u64) := by kernel_rfl
@[simp] theorem z12 : sizeOf? Try.prog 12 = some 1 := by kernel_rfl
@[simp] theorem v12 : zeroV Try.prog 12 = some [V.int IntKind.u64 0] := by kernel_rfl
@[simp] theorem g12 (cs : List V) (off : Nat) : getV Try.prog 12 cs off = cs[off]? := getV_flat (by kernel_rfl) (by kernel_rfl)
@[simp] theorem f12 {n : Nat} (h : n * 8 < 140737488355328) : fits Try.prog 12 n = true := fits_of (sz := 1) (b := 8) (by kernel_rfl) (by decide) (by decide) h
/-! 13: struct ( msg string; addr uintptr ) -/
@[simp] theorem u13 : Try.prog.underlying 13 = some (TypeDesc.struct #[{ name := "msg", type := 9, offset := 0, embedded := false, tag := "", pkgPath := "runtime", byteOffset := 0 }, { name := "addr", type := 12, offset := 1, embedded := false, tag := "", pkgPath := "runtime", byteOffset := 16 }]) := by kernel_rfl
@[simp] theorem z13 : sizeOf? Try.prog 13 = some 2 := by kernel_rfl
@[simp] theorem v13 : zeroV Try.prog 13 = some [V.str { data := #[] }, V.int IntKind.u64 0] := by kernel_rfl
@[simp] theorem g13 (cs : List V) (off : Nat) : getV Try.prog 13 cs off = if off + 2 ≤ cs.length then some (.agg ((cs.drop off).take 2)) else none := getV_agg (by kernel_rfl) (by kernel_rfl) (by kernel_rfl)
@[simp] theorem f13 {n : Nat} (h : n * 24 < 140737488355328) : fits Try.prog 13 n = true := fits_of (sz := 2) (b := 24) (by kernel_rfl) (by decide) (by decide) h
@[simp] theorem s13 : sized Try.prog 13 = true := by kernel_rfl
@[simp] theorem p13_0 : placeOf Try.prog 13 0 = some (0, 1) := by kernel_rfl
@[simp] theorem p13_1 : placeOf Try.prog 13 1 = some (1, 1) := by kernel_rfl
/-! 21: int32 -/
@[simp] theorem u21 : Try.prog.underlying 21 = some (TypeDesc.int IntKind.i32) := by kernel_rfl
@[simp] theorem z21 : sizeOf? Try.prog 21 = some 1 := by kernel_rfl
@[simp] theorem v21 : zeroV Try.prog 21 = some [V.int IntKind.i32 0] := by kernel_rfl
@[simp] theorem g21 (cs : List V) (off : Nat) : getV Try.prog 21 cs off = cs[off]? := getV_flat (by kernel_rfl) (by kernel_rfl)
@[simp] theorem f21 {n : Nat} (h : n * 4 < 140737488355328) : fits Try.prog 21 n = true := fits_of (sz := 1) (b := 4) (by kernel_rfl) (by decide) (by decide) h
/-! 22: [][]uint8 -/
@[simp] theorem u22 : Try.prog.underlying 22 = some (TypeDesc.slice 23) := by kernel_rfl
@[simp] theorem z22 : sizeOf? Try.prog 22 = some 1 := by kernel_rfl
@[simp] theorem v22 : zeroV Try.prog 22 = some [V.nils] := by kernel_rfl
@[simp] theorem g22 (cs : List V) (off : Nat) : getV Try.prog 22 cs off = cs[off]? := getV_flat (by kernel_rfl) (by kernel_rfl)
@[simp] theorem f22 {n : Nat} (h : n * 24 < 140737488355328) : fits Try.prog 22 n = true := fits_of (sz := 1) (b := 24) (by kernel_rfl) (by decide) (by decide) h
/-! 23: []uint8 -/
@[simp] theorem u23 : Try.prog.underlying 23 = some (TypeDesc.slice 5) := by kernel_rfl
@[simp] theorem z23 : sizeOf? Try.prog 23 = some 1 := by kernel_rfl
@[simp] theorem v23 : zeroV Try.prog 23 = some [V.nils] := by kernel_rfl
@[simp] theorem g23 (cs : List V) (off : Nat) : getV Try.prog 23 cs off = cs[off]? := getV_flat (by kernel_rfl) (by kernel_rfl)
@[simp] theorem f23 {n : Nat} (h : n * 24 < 140737488355328) : fits Try.prog 23 n = true := fits_of (sz := 1) (b := 24) (by kernel_rfl) (by decide) (by decide) h
/-! 25: *bloom.Filter -/
@[simp] theorem u25 : Try.prog.underlying 25 = some (TypeDesc.pointer 55) := by kernel_rfl
@[simp] theorem z25 : sizeOf? Try.prog 25 = some 1 := by kernel_rfl
@[simp] theorem v25 : zeroV Try.prog 25 = some [V.nilp] := by kernel_rfl
@[simp] theorem g25 (cs : List V) (off : Nat) : getV Try.prog 25 cs off = cs[off]? := getV_flat (by kernel_rfl) (by kernel_rfl)
@[simp] theorem f25 {n : Nat} (h : n * 8 < 140737488355328) : fits Try.prog 25 n = true := fits_of (sz := 1) (b := 8) (by kernel_rfl) (by decide) (by decide) h
/-! 27: []bool -/
@[simp] theorem u27 : Try.prog.underlying 27 = some (TypeDesc.slice 4) := by kernel_rfl
@[simp] theorem z27 : sizeOf? Try.prog 27 = some 1 := by kernel_rfl
@[simp] theorem v27 : zeroV Try.prog 27 = some [V.nils] := by kernel_rfl
@[simp] theorem g27 (cs : List V) (off : Nat) : getV Try.prog 27 cs off = cs[off]? := getV_flat (by kernel_rfl) (by kernel_rfl)
@[simp] theorem f27 {n : Nat} (h : n * 24 < 140737488355328) : fits Try.prog 27 n = true := fits_of (sz := 1) (b := 24) (by kernel_rfl) (by decide) (by decide) h
/-! 38: uint64 -/
@[simp] theorem u38 : Try.prog.underlying 38 = some (TypeDesc.int IntKind.u64) := by kernel_rfl
@[simp] theorem z38 : sizeOf? Try.prog 38 = some 1 := by kernel_rfl
@[simp] theorem v38 : zeroV Try.prog 38 = some [V.int IntKind.u64 0] := by kernel_rfl
@[simp] theorem g38 (cs : List V) (off : Nat) : getV Try.prog 38 cs off = cs[off]? := getV_flat (by kernel_rfl) (by kernel_rfl)
@[simp] theorem f38 {n : Nat} (h : n * 8 < 140737488355328) : fits Try.prog 38 n = true := fits_of (sz := 1) (b := 8) (by kernel_rfl) (by decide) (by decide) h
/-! 44: api.Errno = stoa/api.Errno -/
@[simp] theorem u44 : Try.prog.underlying 44 = some (TypeDesc.int IntKind.i64) := by kernel_rfl
@[simp] theorem z44 : sizeOf? Try.prog 44 = some 1 := by kernel_rfl
@[simp] theorem v44 : zeroV Try.prog 44 = some [V.int IntKind.i64 0] := by kernel_rfl
@[simp] theorem g44 (cs : List V) (off : Nat) : getV Try.prog 44 cs off = cs[off]? := getV_flat (by kernel_rfl) (by kernel_rfl)
@[simp] theorem f44 {n : Nat} (h : n * 8 < 140737488355328) : fits Try.prog 44 n = true := fits_of (sz := 1) (b := 8) (by kernel_rfl) (by decide) (by decide) h
/-! 54: struct ( row []uint8 ) -/
@[simp] theorem u54 : Try.prog.underlying 54 = some (TypeDesc.struct #[{ name := "row", type := 23, offset := 0, embedded := false, tag := "", pkgPath := "stoa/bloom", byteOffset := 0 }]) := by kernel_rfl
@[simp] theorem z54 : sizeOf? Try.prog 54 = some 1 := by kernel_rfl
@[simp] theorem v54 : zeroV Try.prog 54 = some [V.nils] := by kernel_rfl
@[simp] theorem g54 (cs : List V) (off : Nat) : getV Try.prog 54 cs off = if off + 1 ≤ cs.length then some (.agg ((cs.drop off).take 1)) else none := getV_agg (by kernel_rfl) (by kernel_rfl) (by kernel_rfl)
@[simp] theorem f54 {n : Nat} (h : n * 24 < 140737488355328) : fits Try.prog 54 n = true := fits_of (sz := 1) (b := 24) (by kernel_rfl) (by decide) (by decide) h
@[simp] theorem s54 : sized Try.prog 54 = true := by kernel_rfl
@[simp] theorem p54_0 : placeOf Try.prog 54 0 = some (0, 1) := by kernel_rfl
/-! 55: bloom.Filter = stoa/bloom.Filter -/
@[simp] theorem u55 : Try.prog.underlying 55 = some (TypeDesc.struct #[{ name := "row", type := 23, offset := 0, embedded := false, tag := "", pkgPath := "stoa/bloom", byteOffset := 0 }]) := by kernel_rfl
@[simp] theorem z55 : sizeOf? Try.prog 55 = some 1 := by kernel_rfl
@[simp] theorem v55 : zeroV Try.prog 55 = some [V.nils] := by kernel_rfl
@[simp] theorem g55 (cs : List V) (off : Nat) : getV Try.prog 55 cs off = if off + 1 ≤ cs.length then some (.agg ((cs.drop off).take 1)) else none := getV_agg (by kernel_rfl) (by kernel_rfl) (by kernel_rfl)
@[simp] theorem f55 {n : Nat} (h : n * 24 < 140737488355328) : fits Try.prog 55 n = true := fits_of (sz := 1) (b := 24) (by kernel_rfl) (by decide) (by decide) h
@[simp] theorem s55 : sized Try.prog 55 = true := by kernel_rfl
@[simp] theorem p55_0 : placeOf Try.prog 55 0 = some (0, 1) := by kernel_rfl
/-! 62: []uint64 -/
@[simp] theorem u62 : Try.prog.underlying 62 = some (TypeDesc.slice 38) := by kernel_rfl
@[simp] theorem z62 : sizeOf? Try.prog 62 = some 1 := by kernel_rfl
@[simp] theorem v62 : zeroV Try.prog 62 = some [V.nils] := by kernel_rfl
@[simp] theorem g62 (cs : List V) (off : Nat) : getV Try.prog 62 cs off = cs[off]? := getV_flat (by kernel_rfl) (by kernel_rfl)
@[simp] theorem f62 {n : Nat} (h : n * 24 < 140737488355328) : fits Try.prog 62 n = true := fits_of (sz := 1) (b := 24) (by kernel_rfl) (by decide) (by decide) h
/-! 71: uint -/
@[simp] theorem u71 : Try.prog.underlying 71 = some (TypeDesc.int IntKind.u64) := by kernel_rfl
@[simp] theorem z71 : sizeOf? Try.prog 71 = some 1 := by kernel_rfl
@[simp] theorem v71 : zeroV Try.prog 71 = some [V.int IntKind.u64 0] := by kernel_rfl
@[simp] theorem g71 (cs : List V) (off : Nat) : getV Try.prog 71 cs off = cs[off]? := getV_flat (by kernel_rfl) (by kernel_rfl)
@[simp] theorem f71 {n : Nat} (h : n * 8 < 140737488355328) : fits Try.prog 71 n = true := fits_of (sz := 1) (b := 8) (by kernel_rfl) (by decide) (by decide) h
/-! 72: [4]uint8 -/
@[simp] theorem u72 : Try.prog.underlying 72 = some (TypeDesc.array 4 5) := by kernel_rfl
@[simp] theorem z72 : sizeOf? Try.prog 72 = some 4 := by kernel_rfl
@[simp] theorem v72 : zeroV Try.prog 72 = some [V.int IntKind.u8 0, V.int IntKind.u8 0, V.int IntKind.u8 0, V.int IntKind.u8 0] := by kernel_rfl
@[simp] theorem g72 (cs : List V) (off : Nat) : getV Try.prog 72 cs off = if off + 4 ≤ cs.length then some (.agg ((cs.drop off).take 4)) else none := getV_agg (by kernel_rfl) (by kernel_rfl) (by kernel_rfl)
@[simp] theorem f72 {n : Nat} (h : n * 4 < 140737488355328) : fits Try.prog 72 n = true := fits_of (sz := 4) (b := 4) (by kernel_rfl) (by decide) (by decide) h
@[simp] theorem e72 : flat Try.prog 72 = some (List.replicate 4 (.int IntKind.u8)) := by kernel_rfl
@[simp] theorem s72 : sized Try.prog 72 = true := by kernel_rfl
@[simp] theorem p72_0 : placeOf Try.prog 72 0 = some (0, 1) := by kernel_rfl
@[simp] theorem p72_1 : placeOf Try.prog 72 1 = some (1, 1) := by kernel_rfl
@[simp] theorem p72_2 : placeOf Try.prog 72 2 = some (2, 1) := by kernel_rfl
@[simp] theorem p72_3 : placeOf Try.prog 72 3 = some (3, 1) := by kernel_rfl
@[simp] theorem p72_4 : placeOf Try.prog 72 4 = some (4, 1) := by kernel_rfl
@[simp] theorem p72_5 : placeOf Try.prog 72 5 = some (5, 1) := by kernel_rfl
@[simp] theorem p72_6 : placeOf Try.prog 72 6 = some (6, 1) := by kernel_rfl
@[simp] theorem p72_7 : placeOf Try.prog 72 7 = some (7, 1) := by kernel_rfl
@[simp] theorem p72_8 : placeOf Try.prog 72 8 = some (8, 1) := by kernel_rfl
@[simp] theorem p72_9 : placeOf Try.prog 72 9 = some (9, 1) := by kernel_rfl
@[simp] theorem p72_10 : placeOf Try.prog 72 10 = some (10, 1) := by kernel_rfl
@[simp] theorem p72_11 : placeOf Try.prog 72 11 = some (11, 1) := by kernel_rfl
@[simp] theorem p72_12 : placeOf Try.prog 72 12 = some (12, 1) := by kernel_rfl
@[simp] theorem p72_13 : placeOf Try.prog 72 13 = some (13, 1) := by kernel_rfl
@[simp] theorem p72_14 : placeOf Try.prog 72 14 = some (14, 1) := by kernel_rfl
@[simp] theorem p72_15 : placeOf Try.prog 72 15 = some (15, 1) := by kernel_rfl
@[simp] theorem p72_16 : placeOf Try.prog 72 16 = some (16, 1) := by kernel_rfl
@[simp] theorem p72_17 : placeOf Try.prog 72 17 = some (17, 1) := by kernel_rfl
@[simp] theorem p72_18 : placeOf Try.prog 72 18 = some (18, 1) := by kernel_rfl
@[simp] theorem p72_19 : placeOf Try.prog 72 19 = some (19, 1) := by kernel_rfl
@[simp] theorem p72_20 : placeOf Try.prog 72 20 = some (20, 1) := by kernel_rfl
@[simp] theorem p72_21 : placeOf Try.prog 72 21 = some (21, 1) := by kernel_rfl
@[simp] theorem p72_22 : placeOf Try.prog 72 22 = some (22, 1) := by kernel_rfl
@[simp] theorem p72_23 : placeOf Try.prog 72 23 = some (23, 1) := by kernel_rfl
@[simp] theorem p72_24 : placeOf Try.prog 72 24 = some (24, 1) := by kernel_rfl
@[simp] theorem p72_25 : placeOf Try.prog 72 25 = some (25, 1) := by kernel_rfl
@[simp] theorem p72_26 : placeOf Try.prog 72 26 = some (26, 1) := by kernel_rfl
@[simp] theorem p72_27 : placeOf Try.prog 72 27 = some (27, 1) := by kernel_rfl
@[simp] theorem p72_28 : placeOf Try.prog 72 28 = some (28, 1) := by kernel_rfl
@[simp] theorem p72_29 : placeOf Try.prog 72 29 = some (29, 1) := by kernel_rfl
@[simp] theorem p72_30 : placeOf Try.prog 72 30 = some (30, 1) := by kernel_rfl
@[simp] theorem p72_31 : placeOf Try.prog 72 31 = some (31, 1) := by kernel_rfl
@[simp] theorem p72_32 : placeOf Try.prog 72 32 = some (32, 1) := by kernel_rfl
@[simp] theorem p72_33 : placeOf Try.prog 72 33 = some (33, 1) := by kernel_rfl
@[simp] theorem p72_34 : placeOf Try.prog 72 34 = some (34, 1) := by kernel_rfl
@[simp] theorem p72_35 : placeOf Try.prog 72 35 = some (35, 1) := by kernel_rfl
@[simp] theorem p72_36 : placeOf Try.prog 72 36 = some (36, 1) := by kernel_rfl
@[simp] theorem p72_37 : placeOf Try.prog 72 37 = some (37, 1) := by kernel_rfl
@[simp] theorem p72_38 : placeOf Try.prog 72 38 = some (38, 1) := by kernel_rfl
@[simp] theorem p72_39 : placeOf Try.prog 72 39 = some (39, 1) := by kernel_rfl
/-! 74: uint32 -/
@[simp] theorem u74 : Try.prog.underlying 74 = some (TypeDesc.int IntKind.u32) := by kernel_rfl
@[simp] theorem z74 : sizeOf? Try.prog 74 = some 1 := by kernel_rfl
@[simp] theorem v74 : zeroV Try.prog 74 = some [V.int IntKind.u32 0] := by kernel_rfl
@[simp] theorem g74 (cs : List V) (off : Nat) : getV Try.prog 74 cs off = cs[off]? := getV_flat (by kernel_rfl) (by kernel_rfl)
@[simp] theorem f74 {n : Nat} (h : n * 4 < 140737488355328) : fits Try.prog 74 n = true := fits_of (sz := 1) (b := 4) (by kernel_rfl) (by decide) (by decide) h
/-! 95: *uint8 -/
@[simp] theorem u95 : Try.prog.underlying 95 = some (TypeDesc.pointer 5) := by kernel_rfl
@[simp] theorem z95 : sizeOf? Try.prog 95 = some 1 := by kernel_rfl
@[simp] theorem v95 : zeroV Try.prog 95 = some [V.nilp] := by kernel_rfl
@[simp] theorem g95 (cs : List V) (off : Nat) : getV Try.prog 95 cs off = cs[off]? := getV_flat (by kernel_rfl) (by kernel_rfl)
@[simp] theorem f95 {n : Nat} (h : n * 8 < 140737488355328) : fits Try.prog 95 n = true := fits_of (sz := 1) (b := 8) (by kernel_rfl) (by decide) (by decide) h
/-! 100: unsafe.Pointer -/
@[simp] theorem u100 : Try.prog.underlying 100 = some TypeDesc.unsafePointer := by kernel_rfl
@[simp] theorem z100 : sizeOf? Try.prog 100 = some 1 := by kernel_rfl
@[simp] theorem v100 : zeroV Try.prog 100 = some [V.nilp] := by kernel_rfl
@[simp] theorem g100 (cs : List V) (off : Nat) : getV Try.prog 100 cs off = cs[off]? := getV_flat (by kernel_rfl) (by kernel_rfl)
@[simp] theorem f100 {n : Nat} (h : n * 8 < 140737488355328) : fits Try.prog 100 n = true := fits_of (sz := 1) (b := 8) (by kernel_rfl) (by decide) (by decide) h
end Go.Proofs.Ytpfkebjjbhnehaa.B
