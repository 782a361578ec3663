/- Facts about the types of this program. (Written by types.py.) -/
import Derived.Test.YtimgdniiidcjlaaAb24
import Derived.Laws.Closers25b
import Derived.Test.YtimgdniiidcjlaaRows
set_option linter.unusedSimpArgs false
set_option linter.unusedVariables false
set_option linter.unusedSectionVars false
set_option maxRecDepth 20000
namespace Go.Proofs.Ytimgdniiidcjlaa.B
open Go Go.Ab
/-! 2: int64 -/
@[simp] theorem u2 : Try.prog.underlying 2 = some (TypeDesc.int IntKind.i64) := by kernel_rfl
@[simp] theorem z2 : sizeOf? Try.prog 2 = some 1 := by kernel_rfl
@[simp] theorem v2 : zeroV Try.prog 2 = some [V.int IntKind.i64 0] := by kernel_rfl
@[simp] theorem g2 (cs : List V) (off : Nat) : getV Try.prog 2 cs off = cs[off]? := getV_flat (by kernel_rfl) (by kernel_rfl)
@[simp] theorem f2 {n : Nat} (h : n * 8 < 140737488355328) : fits Try.prog 2 n = true := fits_of (sz := 1) (b := 8) (by kernel_rfl) (by decide) (by decide) h
/-! 3: int -/
@[simp] theorem u3 : Try.prog.underlying 3 = some (TypeDesc.int IntKind.i64) := by kernel_rfl
@[simp] theorem z3 : sizeOf? Try.prog 3 = some 1 := by kernel_rfl
@[simp] theorem v3 : zeroV Try.prog 3 = some [V.int IntKind.i64 0] := by kernel_rfl
@[simp] theorem g3 (cs : List V) (off : Nat) : getV Try.prog 3 cs off = cs[off]? := getV_flat (by kernel_rfl) (by kernel_rfl)
@[simp] theorem f3 {n : Nat} (h : n * 8 < 140737488355328) : fits Try.prog 3 n = true := fits_of (sz := 1) (b := 8) (by kernel_rfl) (by decide) (by decide) h
/-! 4: bool -/
@[simp] theorem u4 : Try.prog.underlying 4 = some TypeDesc.bool := by kernel_rfl
@[simp] theorem z4 : sizeOf? Try.prog 4 = some 1 := by kernel_rfl
@[simp] theorem v4 : zeroV Try.prog 4 = some [V.bool false] := by kernel_rfl
@[simp] theorem g4 (cs : List V) (off : Nat) : getV Try.prog 4 cs off = cs[off]? := getV_flat (by kernel_rfl) (by kernel_rfl)
@[simp] theorem f4 {n : Nat} (h : n * 1 < 140737488355328) : fits Try.prog 4 n = true := fits_of (sz := 1) (b := 1) (by kernel_rfl) (by decide) (by decide) h
/-! 5: uint8 -/
@[simp] theorem u5 : Try.prog.underlying 5 = some (TypeDesc.int IntKind.u8) := by kernel_rfl
@[simp] theorem z5 : sizeOf? Try.prog 5 = some 1 := by kernel_rfl
@[simp] theorem v5 : zeroV Try.prog 5 = some [V.int IntKind.u8 0] := by kernel_rfl
@[simp] theorem g5 (cs : List V) (off : Nat) : getV Try.prog 5 cs off = cs[off]? := getV_flat (by kernel_rfl) (by kernel_rfl)
@[simp] theorem f5 {n : Nat} (h : n * 1 < 140737488355328) : fits Try.prog 5 n = true := fits_of (sz := 1) (b := 1) (by kernel_rfl) (by decide) (by decide) h
/-! 9: string -/
@[simp] theorem u9 : Try.prog.underlying 9 = some TypeDesc.string := by kernel_rfl
@[simp] theorem z9 : sizeOf? Try.prog 9 = some 1 := by kernel_rfl
@[simp] theorem v9 : zeroV Try.prog 9 = some [V.str { data := #[] }] := by kernel_rfl
@[simp] theorem g9 (cs : List V) (off : Nat) : getV Try.prog 9 cs off = cs[off]? := getV_flat (by kernel_rfl) (by kernel_rfl)
@[simp] theorem f9 {n : Nat} (h : n * 16 < 140737488355328) : fits Try.prog 9 n = true := fits_of (sz := 1) (b := 16) (by kernel_rfl) (by decide) (by decide) h
/-! 12: uintptr -/
@[simp] theorem u12 : Try.prog.underlying 12 = some (TypeDesc.int IntKind.u64) := by kernel_rfl
@[simp] theorem z12 : sizeOf? Try.prog 12 = some 1 := by kernel_rfl
@[simp] theorem v12 : zeroV Try.prog 12 = some [V.int IntKind.u64 0] := by kernel_rfl
@[simp] theorem g12 (cs : List V) (off : Nat) : getV Try.prog 12 cs off = cs[off]? := getV_flat (by kernel_rfl) (by kernel_rfl)
@[simp] theorem f12 {n : Nat} (h : n * 8 < 140737488355328) : fits Try.prog 12 n = true := fits_of (sz := 1) (b := 8) (by kernel_rfl) (by decide) (by decide) h
/-! 13: struct ( msg string; addr uintptr ) -/
@[simp] theorem u13 : Try.prog.underlying 13 = some (TypeDesc.struct #[{ name := "msg", type := 9, offset := 0, embedded := false, tag := "", pkgPath := "runtime", byteOffset := 0 }, { name := "addr", type := 12, offset := 1, embedded := false, tag := "", pkgPath := "runtime", byteOffset := 16 }]) := by kernel_rfl
@[simp] theorem z13 : sizeOf? Try.prog 13 = some 2 := by kernel_rfl
@[simp] theorem v13 : zeroV Try.prog 13 = some [V.str { data := #[] }, V.int IntKind.u64 0] := by kernel_rfl
@[simp] theorem g13 (cs : List V) (off : Nat) : getV Try.prog 13 cs off = if off + 2 ≤ cs.length then some (.agg ((cs.drop off).take 2)) else none := getV_agg (by kernel_rfl) (by kernel_rfl) (by kernel_rfl)
@[simp] theorem f13 {n : Nat} (h : n * 24 < 140737488355328) : fits Try.prog 13 n = true := fits_of (sz := 2) (b := 24) (by kernel_rfl) (by decide) (by decide) h
@[simp] theorem s13 : sized Try.prog 13 = true := by kernel_rfl
@[simp] theorem p13_0 : placeOf Try.prog 13 0 = some (0, 1) := by kernel_rfl
@[simp] theorem p13_1 : placeOf Try.prog 13 1 = some (1, 1) := by kernel_rfl
/-! 21: int32 -/
@[simp] theorem u21 : Try.prog.underlying 21 = some (TypeDesc.int IntKind.i32) := by kernel_rfl
@[simp] theorem z21 : sizeOf? Try.prog 21 = some 1 := by kernel_rfl
@[simp] theorem v21 : zeroV Try.prog 21 = some [V.int IntKind.i32 0] := by kernel_rfl
@[simp] theorem g21 (cs : List V) (off : Nat) : getV Try.prog 21 cs off = cs[off]? := getV_flat (by kernel_rfl) (by kernel_rfl)
@[simp] theorem f21 {n : Nat} (h : n * 4 < 140737488355328) : fits Try.prog 21 n = true := fits_of (sz := 1) (b := 4) (by kernel_rfl) (by decide) (by decide) h
/-! 22: []uint8 -/
@[simp] theorem u22 : Try.prog.underlying 22 = some (TypeDesc.slice 5) := by kernel_rfl
@[simp] theorem z22 : sizeOf? Try.prog 22 = some 1 := by kernel_rfl
@[simp] theorem v22 : zeroV Try.prog 22 = some [V.nils] := by kernel_rfl
@[simp] theorem g22 (cs : List V) (off : Nat) : getV Try.prog 22 cs off = cs[off]? := getV_flat (by kernel_rfl) (by kernel_rfl)
@[simp] theorem f22 {n : Nat} (h : n * 24 < 140737488355328) : fits Try.prog 22 n = true := fits_of (sz := 1) (b := 24) (by kernel_rfl) (by decide) (by decide) h
/-! 25: uint32 -/
@[simp] theorem u25 : Try.prog.underlying 25 = some (TypeDesc.int IntKind.u32) := by kernel_rfl
@[simp] theorem z25 : sizeOf? Try.prog 25 = some 1 := by kernel_rfl
@[simp] theorem v25 : zeroV Try.prog 25 = some [V.int IntKind.u32 0] := by kernel_rfl
@[simp] theorem g25 (cs : List V) (off : Nat) : getV Try.prog 25 cs off = cs[off]? := getV_flat (by kernel_rfl) (by kernel_rfl)
@[simp] theorem f25 {n : Nat} (h : n * 4 < 140737488355328) : fits Try.prog 25 n = true := fits_of (sz := 1) (b := 4) (by kernel_rfl) (by decide) (by decide) h
/-! 36: [][]uint8 -/
@[simp] theorem u36 : Try.prog.underlying 36 = some (TypeDesc.slice 22) := by kernel_rfl
@[simp] theorem z36 : sizeOf? Try.prog 36 = some 1 := by kernel_rfl
@[simp] theorem v36 : zeroV Try.prog 36 = some [V.nils] := by kernel_rfl
@[simp] theorem g36 (cs : List V) (off : Nat) : getV Try.prog 36 cs off = cs[off]? := getV_flat (by kernel_rfl) (by kernel_rfl)
@[simp] theorem f36 {n : Nat} (h : n * 24 < 140737488355328) : fits Try.prog 36 n = true := fits_of (sz := 1) (b := 24) (by kernel_rfl) (by decide) (by decide) h
/-! 39: [4]uint8 -/
@[simp] theorem u39 : Try.prog.underlying 39 = some (TypeDesc.array 4 5) := by kernel_rfl
@[simp] theorem z39 : sizeOf? Try.prog 39 = some 4 := by kernel_rfl
@[simp] theorem v39 : zeroV Try.prog 39 = some [V.int IntKind.u8 0, V.int IntKind.u8 0, V.int IntKind.u8 0, V.int IntKind.u8 0] := by kernel_rfl
@[simp] theorem g39 (cs : List V) (off : Nat) : getV Try.prog 39 cs off = if off + 4 ≤ cs.length then some (.agg ((cs.drop off).take 4)) else none := getV_agg (by kernel_rfl) (by kernel_rfl) (by kernel_rfl)
@[simp] theorem f39 {n : Nat} (h : n * 4 < 140737488355328) : fits Try.prog 39 n = true := fits_of (sz := 4) (b := 4) (by kernel_rfl) (by decide) (by decide) h
@[simp] theorem e39 : flat Try.prog 39 = some (List.replicate 4 (.int IntKind.u8)) := by kernel_rfl
@[simp] theorem s39 : sized Try.prog 39 = true := by kernel_rfl
@[simp] theorem p39_0 : placeOf Try.prog 39 0 = some (0, 1) := by kernel_rfl
@[simp] theorem p39_1 : placeOf Try.prog 39 1 = some (1, 1) := by kernel_rfl
@[simp] theorem p39_2 : placeOf Try.prog 39 2 = some (2, 1) := by kernel_rfl
@[simp] theorem p39_3 : placeOf Try.prog 39 3 = some (3, 1) := by kernel_rfl
@[simp] theorem p39_4 : placeOf Try.prog 39 4 = some (4, 1) := by kernel_rfl
@[simp] theorem p39_5 : placeOf Try.prog 39 5 = some (5, 1) := by kernel_rfl
@[simp] theorem p39_6 : placeOf Try.prog 39 6 = some (6, 1) := by kernel_rfl
@[simp] theorem p39_7 : placeOf Try.prog 39 7 = some (7, 1) := by kernel_rfl
@[simp] theorem p39_8 : placeOf Try.prog 39 8 = some (8, 1) := by kernel_rfl
@[simp] theorem p39_9 : placeOf Try.prog 39 9 = some (9, 1) := by kernel_rfl
@[simp] theorem p39_10 : placeOf Try.prog 39 10 = some (10, 1) := by kernel_rfl
@[simp] theorem p39_11 : placeOf Try.prog 39 11 = some (11, 1) := by kernel_rfl
@[simp] theorem p39_12 : placeOf Try.prog 39 12 = some (12, 1) := by kernel_rfl
@[simp] theorem p39_13 : placeOf Try.prog 39 13 = some (13, 1) := by kernel_rfl
@[simp] theorem p39_14 : placeOf Try.prog 39 14 = some (14, 1) := by kernel_rfl
@[simp] theorem p39_15 : placeOf Try.prog 39 15 = some (15, 1) := by kernel_rfl
@[simp] theorem p39_16 : placeOf Try.prog 39 16 = some (16, 1) := by kernel_rfl
@[simp] theorem p39_17 : placeOf Try.prog 39 17 = some (17, 1) := by kernel_rfl
@[simp] theorem p39_18 : placeOf Try.prog 39 18 = some (18, 1) := by kernel_rfl
@[simp] theorem p39_19 : placeOf Try.prog 39 19 = some (19, 1) := by kernel_rfl
@[simp] theorem p39_20 : placeOf Try.prog 39 20 = some (20, 1) := by kernel_rfl
@[simp] theorem p39_21 : placeOf Try.prog 39 21 = some (21, 1) := by kernel_rfl
@[simp] theorem p39_22 : placeOf Try.prog 39 22 = some (22, 1) := by kernel_rfl
@[simp] theorem p39_23 : placeOf Try.prog 39 23 = some (23, 1) := by kernel_rfl
@[simp] theorem p39_24 : placeOf Try.prog 39 24 = some (24, 1) := by kernel_rfl
@[simp] theorem p39_25 : placeOf Try.prog 39 25 = some (25, 1) := by kernel_rfl
@[simp] theorem p39_26 : placeOf Try.prog 39 26 = some (26, 1) := by kernel_rfl
@[simp] theorem p39_27 : placeOf Try.prog 39 27 = some (27, 1) := by kernel_rfl
@[simp] theorem p39_28 : placeOf Try.prog 39 28 = some (28, 1) := by kernel_rfl
@[simp] theorem p39_29 : placeOf Try.prog 39 29 = some (29, 1) := by kernel_rfl
@[simp] theorem p39_30 : placeOf Try.prog 39 30 = some (30, 1) := by kernel_rfl
@[simp] theorem p39_31 : placeOf Try.prog 39 31 = some (31, 1) := by kernel_rfl
@[simp] theorem p39_32 : placeOf Try.prog 39 32 = some (32, 1) := by kernel_rfl
@[simp] theorem p39_33 : placeOf Try.prog 39 33 = some (33, 1) := by kernel_rfl
@[simp] theorem p39_34 : placeOf Try.prog 39 34 = some (34, 1) := by kernel_rfl
@[simp] theorem p39_35 : placeOf Try.prog 39 35 = some (35, 1) := by kernel_rfl
@[simp] theorem p39_36 : placeOf Try.prog 39 36 = some (36, 1) := by kernel_rfl
@[simp] theorem p39_37 : placeOf Try.prog 39 37 = some (37, 1) := by kernel_rfl
@[simp] theorem p39_38 : placeOf Try.prog 39 38 = some (38, 1) := by kernel_rfl
@[simp] theorem p39_39 : placeOf Try.prog 39 39 = some (39, 1) := by kernel_rfl
/-! 43: uint64 -/
@[simp] theorem u43 : Try.prog.underlying 43 = some (TypeDesc.int IntKind.u64) := by kernel_rfl
@[simp] theorem z43 : sizeOf? Try.prog 43 = some 1 := by kernel_rfl
@[simp] theorem v43 : zeroV Try.prog 43 = some [V.int IntKind.u64 0] := by kernel_rfl
@[simp] theorem g43 (cs : List V) (off : Nat) : getV Try.prog 43 cs off = cs[off]? := getV_flat (by kernel_rfl) (by kernel_rfl)
@[simp] theorem f43 {n : Nat} (h : n * 8 < 140737488355328) : fits Try.prog 43 n = true := fits_of (sz := 1) (b := 8) (by kernel_rfl) (by decide) (by decide) h
/-! 47: *crc.mat -/
@[simp] theorem u47 : Try.prog.underlying 47 = some (TypeDesc.pointer 52) := by kernel_rfl
@[simp] theorem z47 : sizeOf? Try.prog 47 = some 1 := by kernel_rfl
@[simp] theorem v47 : zeroV Try.prog 47 = some [V.nilp] := by kernel_rfl
@[simp] theorem g47 (cs : List V) (off : Nat) : getV Try.prog 47 cs off = cs[off]? := getV_flat (by kernel_rfl) (by kernel_rfl)
@[simp] theorem f47 {n : Nat} (h : n * 8 < 140737488355328) : fits Try.prog 47 n = true := fits_of (sz := 1) (b := 8) (by kernel_rfl) (by decide) (by decide) h
/-! 49: uint -/
@[simp] theorem u49 : Try.prog.underlying 49 = some (TypeDesc.int IntKind.u64) := by kernel_rfl
@[simp] theorem z49 : sizeOf? Try.prog 49 = some 1 := by kernel_rfl
@[simp] theorem v49 : zeroV Try.prog 49 = some [V.int IntKind.u64 0] := by kernel_rfl
@[simp] theorem g49 (cs : List V) (off : Nat) : getV Try.prog 49 cs off = cs[off]? := getV_flat (by kernel_rfl) (by kernel_rfl)
@[simp] theorem f49 {n : Nat} (h : n * 8 < 140737488355328) : fits Try.prog 49 n = true := fits_of (sz := 1) (b := 8) (by kernel_rfl) (by decide) (by decide) h
/-! 51: [32]uint32 -/
@[simp] theorem u51 : Try.prog.underlying 51 = some (TypeDesc.array 32 25) := by kernel_rfl
@[simp] theorem z51 : sizeOf? Try.prog 51 = some 32 := by kernel_rfl
@[simp] theorem v51 : zeroV Try.prog 51 = some [V.int IntKind.u32 0, V.int IntKind.u32 0, V.int IntKind.u32 0, V.int IntKind.u32 0, V.int IntKind.u32 0, V.int IntKind.u32 0, V.int IntKind.u32 0, V.int IntKind.u32 0, V.int IntKind.u32 0, V.int IntKind.u32 0, V.int IntKind.u32 0, V.int IntKind.u32 0, V.int IntKind.u32 0, V.int IntKind.u32 0, V.int IntKind.u32 0, V.int IntKind.u32 0, V.int IntKind.u32 0, V.int IntKind.u32 0, V.int IntKind.u32 0, V.int IntKind.u32 0, V.int IntKind.u32 0, V.int IntKind.u32 0, V.int IntKind.u32 0, V.int IntKind.u32 0, V.int IntKind.u32 0, V.int IntKind.u32 0, V.int IntKind.u32 0, V.int IntKind.u32 0, V.int IntKind.u32 0, V.int IntKind.u32 0, V.int IntKind.u32 0, V.int IntKind.u32 0] := by kernel_rfl
@[simp] theorem g51 (cs : List V) (off : Nat) : getV Try.prog 51 cs off = if off + 32 ≤ cs.length then some (.agg ((cs.drop off).take 32)) else none := getV_agg (by kernel_rfl) (by kernel_rfl) (by kernel_rfl)
@[simp] theorem f51 {n : Nat} (h : n * 128 < 140737488355328) : fits Try.prog 51 n = true := fits_of (sz := 32) (b := 128) (by kernel_rfl) (by decide) (by decide) h
@[simp] theorem e51 : flat Try.prog 51 = some (List.replicate 32 (.int IntKind.u32)) := by kernel_rfl
@[simp] theorem s51 : sized Try.prog 51 = true := by kernel_rfl
@[simp] theorem p51_0 : placeOf Try.prog 51 0 = some (0, 1) := by kernel_rfl
@[simp] theorem p51_1 : placeOf Try.prog 51 1 = some (1, 1) := by kernel_rfl
@[simp] theorem p51_2 : placeOf Try.prog 51 2 = some (2, 1) := by kernel_rfl
@[simp] theorem p51_3 : placeOf Try.prog 51 3 = some (3, 1) := by kernel_rfl
@[simp] theorem p51_4 : placeOf Try.prog 51 4 = some (4, 1) := by kernel_rfl
@[simp] theorem p51_5 : placeOf Try.prog 51 5 = some (5, 1) := by kernel_rfl
@[simp] theorem p51_6 : placeOf Try.prog 51 6 = some (6, 1) := by kernel_rfl
@[simp] theorem p51_7 : placeOf Try.prog 51 7 = some (7, 1) := by kernel_rfl
@[simp] theorem p51_8 : placeOf Try.prog 51 8 = some (8, 1) := by kernel_rfl
@[simp] theorem p51_9 : placeOf Try.prog 51 9 = some (9, 1) := by kernel_rfl
@[simp] theorem p51_10 : placeOf Try.prog 51 10 = some (10, 1) := by kernel_rfl
@[simp] theorem p51_11 : placeOf Try.prog 51 11 = some (11, 1) := by kernel_rfl
@[simp] theorem p51_12 : placeOf Try.prog 51 12 = some (12, 1) := by kernel_rfl
@[simp] theorem p51_13 : placeOf Try.prog 51 13 = some (13, 1) := by kernel_rfl
@[simp] theorem p51_14 : placeOf Try.prog 51 14 = some (14, 1) := by kernel_rfl
@[simp] theorem p51_15 : placeOf Try.prog 51 15 = some (15, 1) := by kernel_rfl
@[simp] theorem p51_16 : placeOf Try.prog 51 16 = some (16, 1) := by kernel_rfl
@[simp] theorem p51_17 : placeOf Try.prog 51 17 = some (17, 1) := by kernel_rfl
@[simp] theorem p51_18 : placeOf Try.prog 51 18 = some (18, 1) := by kernel_rfl
@[simp] theorem p51_19 : placeOf Try.prog 51 19 = some (19, 1) := by kernel_rfl
@[simp] theorem p51_20 : placeOf Try.prog 51 20 = some (20, 1) := by kernel_rfl
@[simp] theorem p51_21 : placeOf Try.prog 51 21 = some (21, 1) := by kernel_rfl
@[simp] theorem p51_22 : placeOf Try.prog 51 22 = some (22, 1) := by kernel_rfl
@[simp] theorem p51_23 : placeOf Try.prog 51 23 = some (23, 1) := by kernel_rfl
@[simp] theorem p51_24 : placeOf Try.prog 51 24 = some (24, 1) := by kernel_rfl
@[simp] theorem p51_25 : placeOf Try.prog 51 25 = some (25, 1) := by kernel_rfl
@[simp] theorem p51_26 : placeOf Try.prog 51 26 = some (26, 1) := by kernel_rfl
@[simp] theorem p51_27 : placeOf Try.prog 51 27 = some (27, 1) := by kernel_rfl
@[simp] theorem p51_28 : placeOf Try.prog 51 28 = some (28, 1) := by kernel_rfl
@[simp] theorem p51_29 : placeOf Try.prog 51 29 = some (29, 1) := by kernel_rfl
@[simp] theorem p51_30 : placeOf Try.prog 51 30 = some (30, 1) := by kernel_rfl
@[simp] theorem p51_31 : placeOf Try.prog 51 31 = some (31, 1) := by kernel_rfl
@[simp] theorem p51_32 : placeOf Try.prog 51 32 = some (32, 1) := by kernel_rfl
@[simp] theorem p51_33 : placeOf Try.prog 51 33 = some (33, 1) := by kernel_rfl
@[simp] theorem p51_34 : placeOf Try.prog 51 34 = some (34, 1) := by kernel_rfl
@[simp] theorem p51_35 : placeOf Try.prog 51 35 = some (35, 1) := by kernel_rfl
@[simp] theorem p51_36 : placeOf Try.prog 51 36 = some (36, 1) := by kernel_rfl
@[simp] theorem p51_37 : placeOf Try.prog 51 37 = some (37, 1) := by kernel_rfl
@[simp] theorem p51_38 : placeOf Try.prog 51 38 = some (38, 1) := by kernel_rfl
@[simp] theorem p51_39 : placeOf Try.prog 51 39 = some (39, 1) := by kernel_rfl
/-! 52: crc.mat = stoa/crc.mat -/
@[simp] theorem u52 : Try.prog.underlying 52 = some (TypeDesc.array 32 25) := by kernel_rfl
@[simp] theorem z52 : sizeOf? Try.prog 52 = some 32 := by kernel_rfl
@[simp] theorem v52 : zeroV Try.prog 52 = some [V.int IntKind.u32 0, V.int IntKind.u32 0, V.int IntKind.u32 0, V.int IntKind.u32 0, V.int IntKind.u32 0, V.int IntKind.u32 0, V.int IntKind.u32 0, V.int IntKind.u32 0, V.int IntKind.u32 0, V.int IntKind.u32 0, V.int IntKind.u32 0, V.int IntKind.u32 0, V.int IntKind.u32 0, V.int IntKind.u32 0, V.int IntKind.u32 0, V.int IntKind.u32 0, V.int IntKind.u32 0, V.int IntKind.u32 0, V.int IntKind.u32 0, V.int IntKind.u32 0, V.int IntKind.u32 0, V.int IntKind.u32 0, V.int IntKind.u32 0, V.int IntKind.u32 0, V.int IntKind.u32 0, V.int IntKind.u32 0, V.int IntKind.u32 0, V.int IntKind.u32 0, V.int IntKind.u32 0, V.int IntKind.u32 0, V.int IntKind.u32 0, V.int IntKind.u32 0] := by kernel_rfl
@[simp] theorem g52 (cs : List V) (off : Nat) : getV Try.prog 52 cs off = if off + 32 ≤ cs.length then some (.agg ((cs.drop off).take 32)) else none := getV_agg (by kernel_rfl) (by kernel_rfl) (by kernel_rfl)
@[simp] theorem f52 {n : Nat} (h : n * 128 < 140737488355328) : fits Try.prog 52 n = true := fits_of (sz := 32) (b := 128) (by kernel_rfl) (by decide) (by decide) h
@[simp] theorem e52 : flat Try.prog 52 = some (List.replicate 32 (.int IntKind.u32)) := by kernel_rfl
@[simp] theorem s52 : sized Try.prog 52 = true := by kernel_rfl
@[simp] theorem p52_0 : placeOf Try.prog 52 0 = some (0, 1) := by kernel_rfl
@[simp] theorem p52_1 : placeOf Try.prog 52 1 = some (1, 1) := by kernel_rfl
@[simp] theorem p52_2 : placeOf Try.prog 52 2 = some (2, 1) := by kernel_rfl
@[simp] theorem p52_3 : placeOf Try.prog 52 3 = some (3, 1) := by kernel_rfl
@[simp] theorem p52_4 : placeOf Try.prog 52 4 = some (4, 1) := by kernel_rfl
@[simp] theorem p52_5 : placeOf Try.prog 52 5 = some (5, 1) := by kernel_rfl
@[simp] theorem p52_6 : placeOf Try.prog 52 6 = some (6, 1) := by kernel_rfl
@[simp] theorem p52_7 : placeOf Try.prog 52 7 = some (7, 1) := by kernel_rfl
@[simp] theorem p52_8 : placeOf Try.prog 52 8 = some (8, 1) := by kernel_rfl
@[simp] theorem p52_9 : placeOf Try.prog 52 9 = some (9, 1) := by kernel_rfl
@[simp] theorem p52_10 : placeOf Try.prog 52 10 = some (10, 1) := by kernel_rfl
@[simp] theorem p52_11 : placeOf Try.prog 52 11 = some (11, 1) := by kernel_rfl
@[simp] theorem p52_12 : placeOf Try.prog 52 12 = some (12, 1) := by kernel_rfl
@[simp] theorem p52_13 : placeOf Try.prog 52 13 = some (13, 1) := by kernel_rfl
@[simp] theorem p52_14 : placeOf Try.prog 52 14 = some (14, 1) := by kernel_rfl
@[simp] theorem p52_15 : placeOf Try.prog 52 15 = some (15, 1) := by kernel_rfl
@[simp] theorem p52_16 : placeOf Try.prog 52 16 = some (16, 1) := by kernel_rfl
@[simp] theorem p52_17 : placeOf Try.prog 52 17 = some (17, 1) := by kernel_rfl
@[simp] theorem p52_18 : placeOf Try.prog 52 18 = some (18, 1) := by kernel_rfl
@[simp] theorem p52_19 : placeOf Try.prog 52 19 = some (19, 1) := by kernel_rfl
@[simp] theorem p52_20 : placeOf Try.prog 52 20 = some (20, 1) := by kernel_rfl
@[simp] theorem p52_21 : placeOf Try.prog 52 21 = some (21, 1) := by kernel_rfl
@[simp] theorem p52_22 : placeOf Try.prog 52 22 = some (22, 1) := by kernel_rfl
@[simp] theorem p52_23 : placeOf Try.prog 52 23 = some (23, 1) := by kernel_rfl
@[simp] theorem p52_24 : placeOf Try.prog 52 24 = some (24, 1) := by kernel_rfl
@[simp] theorem p52_25 : placeOf Try.prog 52 25 = some (25, 1) := by kernel_rfl
@[simp] theorem p52_26 : placeOf Try.prog 52 26 = some (26, 1) := by kernel_rfl
@[simp] theorem p52_27 : placeOf Try.prog 52 27 = some (27, 1) := by kernel_rfl
@[simp] theorem p52_28 : placeOf Try.prog 52 28 = some (28, 1) := by kernel_rfl
@[simp] theorem p52_29 : placeOf Try.prog 52 29 = some (29, 1) := by kernel_rfl
@[simp] theorem p52_30 : placeOf Try.prog 52 30 = some (30, 1) := by kernel_rfl
@[simp] theorem p52_31 : placeOf Try.prog 52 31 = some (31, 1) := by kernel_rfl
@[simp] theorem p52_32 : placeOf Try.prog 52 32 = some (32, 1) := by kernel_rfl
@[simp] theorem p52_33 : placeOf Try.prog 52 33 = some (33, 1) := by kernel_rfl
@[simp] theorem p52_34 : placeOf Try.prog 52 34 = some (34, 1) := by kernel_rfl
@[simp] theorem p52_35 : placeOf Try.prog 52 35 = some (35, 1) := by kernel_rfl
@[simp] theorem p52_36 : placeOf Try.prog 52 36 = some (36, 1) := by kernel_rfl
@[simp] theorem p52_37 : placeOf Try.prog 52 37 = some (37, 1) := by kernel_rfl
@[simp] theorem p52_38 : placeOf Try.prog 52 38 = some (38, 1) := by kernel_rfl
@[simp] theorem p52_39 : placeOf Try.prog 52 39 = some (39, 1) := by kernel_rfl
/-! 63: *uint8 -/
@[simp] theorem u63 : Try.prog.underlying 63 = some (TypeDesc.pointer 5) := by kernel_rfl
@[simp] theorem z63 : sizeOf? Try.prog 63 = some 1 := by kernel_rfl
@[simp] theorem v63 : zeroV Try.prog 63 = some [V.nilp] := by kernel_rfl
@[simp] theorem g63 (cs : List V) (off : Nat) : getV Try.prog 63 cs off = cs[off]? := getV_flat (by kernel_rfl) (by kernel_rfl)
@[simp] theorem f63 {n : Nat} (h : n * 8 < 140737488355328) : fits Try.prog 63 n = true := fits_of (sz := 1) (b := 8) (by kernel_rfl) (by decide) (by decide) h
/-! 68: unsafe.Pointer -/
@[simp] theorem u68 : Try.prog.underlying 68 = some TypeDesc.unsafePointer := by kernel_rfl
@[simp] theorem z68 : sizeOf? Try.prog 68 = some 1 := by kernel_rfl
@[simp] theorem v68 : zeroV Try.prog 68 = some [V.nilp] := by kernel_rfl
@[simp] theorem g68 (cs : List V) (off : Nat) : getV Try.prog 68 cs off = cs[off]? := getV_flat (by kernel_rfl) (by kernel_rfl)
@[simp] theorem f68 {n : Nat} (h : n * 8 < 140737488355328) : fits Try.prog 68 n = true := fits_of (sz := 1) (b := 8) (by kernel_rfl) (by decide) (by decide) h
end Go.Proofs.Ytimgdniiidcjlaa.B
