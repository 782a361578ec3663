/- Facts about the types of this program. (Written by types.py.) -/
import Derived.Test.YtmoegiibdaomlaaAb24
import Derived.Laws.Closers25b
import Derived.Test.YtmoegiibdaomlaaRows
set_option linter.unusedSimpArgs false
set_option linter.unusedVariables false
set_option linter.unusedSectionVars false
set_option maxRecDepth 20000
namespace Go.Proofs.Ytmoegiibdaomlaa.B
open Go Go.Ab
/-! 2: int64 -/
@[simp] theorem u2 : Try.prog.underlying 2 = some (TypeDesc.int IntKind.i64) := by kernel_rfl
@[simp] theorem z2 : sizeOf? Try.prog 2 = some 1 := by kernel_rfl
@[simp] theorem v2 : zeroV Try.prog 2 = some [V.int IntKind.i64 0] := by kernel_rfl
@[simp] theorem g2 (cs : List V) (off : Nat) : getV Try.prog 2 cs off = cs[off]? := getV_flat (by kernel_rfl) (by kernel_rfl)
@[simp] theorem f2 {n : Nat} (h : n * 8 < 140737488355328) : fits Try.prog 2 n = true := fits_of (sz := 1) (b := 8) (by kernel_rfl) (by decide) (by decide) h
/-! 3: int -/
@[simp] theorem u3 : Try.prog.underlying 3 = some (TypeDesc.int IntKind.i64) := by kernel_rfl
@[simp] theorem z3 : sizeOf? Try.prog 3 = some 1 := by kernel_rfl
@[simp] theorem v3 : zeroV Try.prog 3 = some [V.int IntKind.i64 0] := by kernel_rfl
@[simp] theorem g3 (cs : List V) (off : Nat) : getV Try.prog 3 cs off = cs[off]? := getV_flat (by kernel_rfl) (by kernel_rfl)
@[simp] theorem f3 {n : Nat} (h : n * 8 < 140737488355328) : fits Try.prog 3 n = true := fits_of (sz := 1) (b := 8) (by kernel_rfl) (by decide) (by decide) h
/-! 4: bool -/
@[simp] theorem u4 : Try.prog.underlying 4 = some TypeDesc.bool := by kernel_rfl
@[simp] theorem z4 : sizeOf? Try.prog 4 = some 1 := by kernel_rfl
@[simp] theorem v4 : zeroV Try.prog 4 = some [V.bool false] := by kernel_rfl
@[simp] theorem g4 (cs : List V) (off : Nat) : getV Try.prog 4 cs off = cs[off]? := getV_flat (by kernel_rfl) (by kernel_rfl)
@[simp] theorem f4 {n : Nat} (h : n * 1 < 140737488355328) : fits Try.prog 4 n = true := fits_of (sz := 1) (b := 1) (by kernel_rfl) (by decide) (by decide) h
/-! 5: uint8 -/
@[simp] theorem u5 : Try.prog.underlying 5 = some (TypeDesc.int IntKind.u8) := by kernel_rfl
@[simp] theorem z5 : sizeOf? Try.prog 5 = some 1 := by kernel_rfl
@[simp] theorem v5 : zeroV Try.prog 5 = some [V.int IntKind.u8 0] := by kernel_rfl
@[simp] theorem g5 (cs : List V) (off : Nat) : getV Try.prog 5 cs off = cs[off]? := getV_flat (by kernel_rfl) (by kernel_rfl)
@[simp] theorem f5 {n : Nat} (h : n * 1 < 140737488355328) : fits Try.prog 5 n = true := fits_of (sz := 1) (b := 1) (by kernel_rfl) (by decide) (by decide) h
/-! 9: string -/
@[simp] theorem u9 : Try.prog.underlying 9 = some TypeDesc.string := by kernel_rfl
@[simp] theorem z9 : sizeOf? Try.prog 9 = some 1 := by kernel_rfl
@[simp] theorem v9 : zeroV Try.prog 9 = some [V.str { data := #[] }] := by kernel_rfl
@[simp] theorem g9 (cs : List V) (off : Nat) : getV Try.prog 9 cs off = cs[off]? := getV_flat (by kernel_rfl) (by kernel_rfl)
@[simp] theorem f9 {n : Nat} (h : n * 16 < 140737488355328) : fits Try.prog 9 n = true := fits_of (sz := 1) (b := 16) (by kernel_rfl) (by decide) (by decide) h
/-! 12: uintptr -/
@[simp] theorem u12 : Try.prog.underlying 12 = some (TypeDesc.int IntKind.u64) := by kernel_rfl
@[simp] theorem z12 : sizeOf? Try.prog 12 = some 1 := by kernel_rfl
@[simp] theorem v12 : zeroV Try.prog 12 = some [V.int IntKind.u64 0] := by kernel_rfl
@[simp] theorem g12 (cs : List V) (off : Nat) : getV Try.prog 12 cs off = cs[off]? := getV_flat (by kernel_rfl) (by kernel_rfl)
@[simp] theorem f12 {n : Nat} (h : n * 8 < 140737488355328) : fits Try.prog 12 n = true := fits_of (sz := 1) (b := 8) (by kernel_rfl) (by decide) (by decide) h
/-! 13: struct ( msg string; addr uintptr ) -/
@[simp] theorem u13 : Try.prog.underlying 13 = some (TypeDesc.struct #[{ name := "msg", type := 9, offset := 0, embedded := false, tag := "", pkgPath := "runtime", byteOffset := 0 }, { name := "addr", type := 12, offset := 1, embedded := false, tag := "", pkgPath := "runtime", byteOffset := 16 }]) := by kernel_rfl
@[simp] theorem z13 : sizeOf? Try.prog 13 = some 2 := by kernel_rfl
@[simp] theorem v13 : zeroV Try.prog 13 = some [V.str { data := #[] }, V.int IntKind.u64 0] := by kernel_rfl
@[simp] theorem g13 (cs : List V) (off : Nat) : getV Try.prog 13 cs off = if off + 2 ≤ cs.length then some (.agg ((cs.drop off).take 2)) else none := getV_agg (by kernel_rfl) (by kernel_rfl) (by kernel_rfl)
@[simp] theorem f13 {n : Nat} (h : n * 24 < 140737488355328) : fits Try.prog 13 n = true := fits_of (sz := 2) (b := 24) (by kernel_rfl) (by decide) (by decide) h
@[simp] theorem s13 : sized Try.prog 13 = true := by kernel_rfl
@[simp] theorem p13_0 : placeOf Try.prog 13 0 = some (0, 1) := by kernel_rfl
@[simp] theorem p13_1 : placeOf Try.prog 13 1 = some (1, 1) := by kernel_rfl
/-! 21: int32 -/
@[simp] theorem u21 : Try.prog.underlying 21 = some (TypeDesc.int IntKind.i32) := by kernel_rfl
@[simp] theorem z21 : sizeOf? Try.prog 21 = some 1 := by kernel_rfl
@[simp] theorem v21 : zeroV Try.prog 21 = some [V.int IntKind.i32 0] := by kernel_rfl
@[simp] theorem g21 (cs : List V) (off : Nat) : getV Try.prog 21 cs off = cs[off]? := getV_flat (by kernel_rfl) (by kernel_rfl)
@[simp] theorem f21 {n : Nat} (h : n * 4 < 140737488355328) : fits Try.prog 21 n = true := fits_of (sz := 1) (b := 4) (by kernel_rfl) (by decide) (by decide) h
/-! 22: []uint8 -/
@[simp] theorem u22 : Try.prog.underlying 22 = some (TypeDesc.slice 5) := by kernel_rfl
@[simp] theorem z22 : sizeOf? Try.prog 22 = some 1 := by kernel_rfl
@[simp] theorem v22 : zeroV Try.prog 22 = some [V.nils] := by kernel_rfl
@[simp] theorem g22 (cs : List V) (off : Nat) : getV Try.prog 22 cs off = cs[off]? := getV_flat (by kernel_rfl) (by kernel_rfl)
@[simp] theorem f22 {n : Nat} (h : n * 24 < 140737488355328) : fits Try.prog 22 n = true := fits_of (sz := 1) (b := 24) (by kernel_rfl) (by decide) (by decide) h
/-! 27: api.Errno = stoa/api.Errno -/
@[simp] theorem u27 : Try.prog.underlying 27 = some (TypeDesc.int IntKind.i64) := by kernel_rfl
@[simp] theorem z27 : sizeOf? Try.prog 27 = some 1 := by kernel_rfl
@[simp] theorem v27 : zeroV Try.prog 27 = some [V.int IntKind.i64 0] := by kernel_rfl
@[simp] theorem g27 (cs : List V) (off : Nat) : getV Try.prog 27 cs off = cs[off]? := getV_flat (by kernel_rfl) (by kernel_rfl)
@[simp] theorem f27 {n : Nat} (h : n * 8 < 140737488355328) : fits Try.prog 27 n = true := fits_of (sz := 1) (b := 8) (by kernel_rfl) (by decide) (by decide) h
/-! 34: struct ( Kind int; Body []uint8 ) -/
@[simp] theorem u34 : Try.prog.underlying 34 = some (TypeDesc.struct #[{ name := "Kind", type := 3, offset := 0, embedded := false, tag := "", pkgPath := "", byteOffset := 0 }, { name := "Body", type := 22, offset := 1, embedded := false, tag := "", pkgPath := "", byteOffset := 8 }]) := by kernel_rfl
@[simp] theorem z34 : sizeOf? Try.prog 34 = some 2 := by kernel_rfl
@[simp] theorem v34 : zeroV Try.prog 34 = some [V.int IntKind.i64 0, V.nils] := by kernel_rfl
@[simp] theorem g34 (cs : List V) (off : Nat) : getV Try.prog 34 cs off = if off + 2 ≤ cs.length then some (.agg ((cs.drop off).take 2)) else none := getV_agg (by kernel_rfl) (by kernel_rfl) (by kernel_rfl)
@[simp] theorem f34 {n : Nat} (h : n * 32 < 140737488355328) : fits Try.prog 34 n = true := fits_of (sz := 2) (b := 32) (by kernel_rfl) (by decide) (by decide) h
@[simp] theorem s34 : sized Try.prog 34 = true := by kernel_rfl
@[simp] theorem p34_0 : placeOf Try.prog 34 0 = some (0, 1) := by kernel_rfl
@[simp] theorem p34_1 : placeOf Try.prog 34 1 = some (1, 1) := by kernel_rfl
/-! 35: api.Frame = stoa/api.Frame -/
@[simp] theorem u35 : Try.prog.underlying 35 = some (TypeDesc.struct #[{ name := "Kind", type := 3, offset := 0, embedded := false, tag := "", pkgPath := "", byteOffset := 0 }, { name := "Body", type := 22, offset := 1, embedded := false, tag := "", pkgPath := "", byteOffset := 8 }]) := by kernel_rfl
@[simp] theorem z35 : sizeOf? Try.prog 35 = some 2 := by kernel_rfl
@[simp] theorem v35 : zeroV Try.prog 35 = some [V.int IntKind.i64 0, V.nils] := by kernel_rfl
@[simp] theorem g35 (cs : List V) (off : Nat) : getV Try.prog 35 cs off = if off + 2 ≤ cs.length then some (.agg ((cs.drop off).take 2)) else none := getV_agg (by kernel_rfl) (by kernel_rfl) (by kernel_rfl)
@[simp] theorem f35 {n : Nat} (h : n * 32 < 140737488355328) : fits Try.prog 35 n = true := fits_of (sz := 2) (b := 32) (by kernel_rfl) (by decide) (by decide) h
@[simp] theorem s35 : sized Try.prog 35 = true := by kernel_rfl
@[simp] theorem p35_0 : placeOf Try.prog 35 0 = some (0, 1) := by kernel_rfl
@[simp] theorem p35_1 : placeOf Try.prog 35 1 = some (1, 1) := by kernel_rfl
/-! 40: []api.Frame -/
@[simp] theorem u40 : Try.prog.underlying 40 = some (TypeDesc.slice 35) := by kernel_rfl
@[simp] theorem z40 : sizeOf? Try.prog 40 = some 1 := by kernel_rfl
@[simp] theorem v40 : zeroV Try.prog 40 = some [V.nils] := by kernel_rfl
@[simp] theorem g40 (cs : List V) (off : Nat) : getV Try.prog 40 cs off = cs[off]? := getV_flat (by kernel_rfl) (by kernel_rfl)
@[simp] theorem f40 {n : Nat} (h : n * 24 < 140737488355328) : fits Try.prog 40 n = true := fits_of (sz := 1) (b := 24) (by kernel_rfl) (by decide) (by decide) h
/-! 47: [][]uint8 -/
@[simp] theorem u47 : Try.prog.underlying 47 = some (TypeDesc.slice 22) := by kernel_rfl
@[simp] theorem z47 : sizeOf? Try.prog 47 = some 1 := by kernel_rfl
@[simp] theorem v47 : zeroV Try.prog 47 = some [V.nils] := by kernel_rfl
@[simp] theorem g47 (cs : List V) (off : Nat) : getV Try.prog 47 cs off = cs[off]? := getV_flat (by kernel_rfl) (by kernel_rfl)
@[simp] theorem f47 {n : Nat} (h : n * 24 < 140737488355328) : fits Try.prog 47 n = true := fits_of (sz := 1) (b := 24) (by kernel_rfl) (by decide) (by decide) h
/-! 53: uint32 -/
@[simp] theorem u53 : Try.prog.underlying 53 = some (TypeDesc.int IntKind.u32) := by kernel_rfl
@[simp] theorem z53 : sizeOf? Try.prog 53 = some 1 := by kernel_rfl
@[simp] theorem v53 : zeroV Try.prog 53 = some [V.int IntKind.u32 0] := by kernel_rfl
@[simp] theorem g53 (cs : List V) (off : Nat) : getV Try.prog 53 cs off = cs[off]? := getV_flat (by kernel_rfl) (by kernel_rfl)
@[simp] theorem f53 {n : Nat} (h : n * 4 < 140737488355328) : fits Try.prog 53 n = true := fits_of (sz := 1) (b := 4) (by kernel_rfl) (by decide) (by decide) h
/-! 56: []int -/
@[simp] theorem u56 : Try.prog.underlying 56 = some (TypeDesc.slice 3) := by kernel_rfl
@[simp] theorem z56 : sizeOf? Try.prog 56 = some 1 := by kernel_rfl
@[simp] theorem v56 : zeroV Try.prog 56 = some [V.nils] := by kernel_rfl
@[simp] theorem g56 (cs : List V) (off : Nat) : getV Try.prog 56 cs off = cs[off]? := getV_flat (by kernel_rfl) (by kernel_rfl)
@[simp] theorem f56 {n : Nat} (h : n * 24 < 140737488355328) : fits Try.prog 56 n = true := fits_of (sz := 1) (b := 24) (by kernel_rfl) (by decide) (by decide) h
/-! 59: uint64 -/
@[simp] theorem u59 : Try.prog.underlying 59 = some (TypeDesc.int IntKind.u64) := by kernel_rfl
@[simp] theorem z59 : sizeOf? Try.prog 59 = some 1 := by kernel_rfl
@[simp] theorem v59 : zeroV Try.prog 59 = some [V.int IntKind.u64 0] := by kernel_rfl
@[simp] theorem g59 (cs : List V) (off : Nat) : getV Try.prog 59 cs off = cs[off]? := getV_flat (by kernel_rfl) (by kernel_rfl)
@[simp] theorem f59 {n : Nat} (h : n * 8 < 140737488355328) : fits Try.prog 59 n = true := fits_of (sz := 1) (b := 8) (by kernel_rfl) (by decide) (by decide) h
/-! 60: uint -/
@[simp] theorem u60 : Try.prog.underlying 60 = some (TypeDesc.int IntKind.u64) := by kernel_rfl
@[simp] theorem z60 : sizeOf? Try.prog 60 = some 1 := by kernel_rfl
@[simp] theorem v60 : zeroV Try.prog 60 = some [V.int IntKind.u64 0] := by kernel_rfl
@[simp] theorem g60 (cs : List V) (off : Nat) : getV Try.prog 60 cs off = cs[off]? := getV_flat (by kernel_rfl) (by kernel_rfl)
@[simp] theorem f60 {n : Nat} (h : n * 8 < 140737488355328) : fits Try.prog 60 n = true := fits_of (sz := 1) (b := 8) (by kernel_rfl) (by decide) (by decide) h
/-! 66: [4]uint8 -/
@[simp] theorem u66 : Try.prog.underlying 66 = some (TypeDesc.array 4 5) := by kernel_rfl
@[simp] theorem z66 : sizeOf? Try.prog 66 = some 4 := by kernel_rfl
@[simp] theorem v66 : zeroV Try.prog 66 = some [V.int IntKind.u8 0, V.int IntKind.u8 0, V.int IntKind.u8 0, V.int IntKind.u8 0] := by kernel_rfl
@[simp] theorem g66 (cs : List V) (off : Nat) : getV Try.prog 66 cs off = if off + 4 ≤ cs.length then some (.agg ((cs.drop off).take 4)) else none := getV_agg (by kernel_rfl) (by kernel_rfl) (by kernel_rfl)
@[simp] theorem f66 {n : Nat} (h : n * 4 < 140737488355328) : fits Try.prog 66 n = true := fits_of (sz := 4) (b := 4) (by kernel_rfl) (by decide) (by decide) h
@[simp] theorem e66 : flat Try.prog 66 = some (List.replicate 4 (.int IntKind.u8)) := by kernel_rfl
@[simp] theorem s66 : sized Try.prog 66 = true := by kernel_rfl
@[simp] theorem p66_0 : placeOf Try.prog 66 0 = some (0, 1) := by kernel_rfl
@[simp] theorem p66_1 : placeOf Try.prog 66 1 = some (1, 1) := by kernel_rfl
@[simp] theorem p66_2 : placeOf Try.prog 66 2 = some (2, 1) := by kernel_rfl
@[simp] theorem p66_3 : placeOf Try.prog 66 3 = some (3, 1) := by kernel_rfl
@[simp] theorem p66_4 : placeOf Try.prog 66 4 = some (4, 1) := by kernel_rfl
@[simp] theorem p66_5 : placeOf Try.prog 66 5 = some (5, 1) := by kernel_rfl
@[simp] theorem p66_6 : placeOf Try.prog 66 6 = some (6, 1) := by kernel_rfl
@[simp] theorem p66_7 : placeOf Try.prog 66 7 = some (7, 1) := by kernel_rfl
@[simp] theorem p66_8 : placeOf Try.prog 66 8 = some (8, 1) := by kernel_rfl
@[simp] theorem p66_9 : placeOf Try.prog 66 9 = some (9, 1) := by kernel_rfl
@[simp] theorem p66_10 : placeOf Try.prog 66 10 = some (10, 1) := by kernel_rfl
@[simp] theorem p66_11 : placeOf Try.prog 66 11 = some (11, 1) := by kernel_rfl
@[simp] theorem p66_12 : placeOf Try.prog 66 12 = some (12, 1) := by kernel_rfl
@[simp] theorem p66_13 : placeOf Try.prog 66 13 = some (13, 1) := by kernel_rfl
@[simp] theorem p66_14 : placeOf Try.prog 66 14 = some (14, 1) := by kernel_rfl
@[simp] theorem p66_15 : placeOf Try.prog 66 15 = some (15, 1) := by kernel_rfl
@[simp] theorem p66_16 : placeOf Try.prog 66 16 = some (16, 1) := by kernel_rfl
@[simp] theorem p66_17 : placeOf Try.prog 66 17 = some (17, 1) := by kernel_rfl
@[simp] theorem p66_18 : placeOf Try.prog 66 18 = some (18, 1) := by kernel_rfl
@[simp] theorem p66_19 : placeOf Try.prog 66 19 = some (19, 1) := by kernel_rfl
@[simp] theorem p66_20 : placeOf Try.prog 66 20 = some (20, 1) := by kernel_rfl
@[simp] theorem p66_21 : placeOf Try.prog 66 21 = some (21, 1) := by kernel_rfl
@[simp] theorem p66_22 : placeOf Try.prog 66 22 = some (22, 1) := by kernel_rfl
@[simp] theorem p66_23 : placeOf Try.prog 66 23 = some (23, 1) := by kernel_rfl
@[simp] theorem p66_24 : placeOf Try.prog 66 24 = some (24, 1) := by kernel_rfl
@[simp] theorem p66_25 : placeOf Try.prog 66 25 = some (25, 1) := by kernel_rfl
@[simp] theorem p66_26 : placeOf Try.prog 66 26 = some (26, 1) := by kernel_rfl
@[simp] theorem p66_27 : placeOf Try.prog 66 27 = some (27, 1) := by kernel_rfl
@[simp] theorem p66_28 : placeOf Try.prog 66 28 = some (28, 1) := by kernel_rfl
@[simp] theorem p66_29 : placeOf Try.prog 66 29 = some (29, 1) := by kernel_rfl
@[simp] theorem p66_30 : placeOf Try.prog 66 30 = some (30, 1) := by kernel_rfl
@[simp] theorem p66_31 : placeOf Try.prog 66 31 = some (31, 1) := by kernel_rfl
@[simp] theorem p66_32 : placeOf Try.prog 66 32 = some (32, 1) := by kernel_rfl
@[simp] theorem p66_33 : placeOf Try.prog 66 33 = some (33, 1) := by kernel_rfl
@[simp] theorem p66_34 : placeOf Try.prog 66 34 = some (34, 1) := by kernel_rfl
@[simp] theorem p66_35 : placeOf Try.prog 66 35 = some (35, 1) := by kernel_rfl
@[simp] theorem p66_36 : placeOf Try.prog 66 36 = some (36, 1) := by kernel_rfl
@[simp] theorem p66_37 : placeOf Try.prog 66 37 = some (37, 1) := by kernel_rfl
@[simp] theorem p66_38 : placeOf Try.prog 66 38 = some (38, 1) := by kernel_rfl
@[simp] theorem p66_39 : placeOf Try.prog 66 39 = some (39, 1) := by kernel_rfl
/-! 82: *uint8 -/
@[simp] theorem u82 : Try.prog.underlying 82 = some (TypeDesc.pointer 5) := by kernel_rfl
@[simp] theorem z82 : sizeOf? Try.prog 82 = some 1 := by kernel_rfl
@[simp] theorem v82 : zeroV Try.prog 82 = some [V.nilp] := by kernel_rfl
@[simp] theorem g82 (cs : List V) (off : Nat) : getV Try.prog 82 cs off = cs[off]? := getV_flat (by kernel_rfl) (by kernel_rfl)
@[simp] theorem f82 {n : Nat} (h : n * 8 < 140737488355328) : fits Try.prog 82 n = true := fits_of (sz := 1) (b := 8) (by kernel_rfl) (by decide) (by decide) h
/-! 87: unsafe.Pointer -/
@[simp] theorem u87 : Try.prog.underlying 87 = some TypeDesc.unsafePointer := by kernel_rfl
@[simp] theorem z87 : sizeOf? Try.prog 87 = some 1 := by kernel_rfl
@[simp] theorem v87 : zeroV Try.prog 87 = some [V.nilp] := by kernel_rfl
@[simp] theorem g87 (cs : List V) (off : Nat) : getV Try.prog 87 cs off = cs[off]? := getV_flat (by kernel_rfl) (by kernel_rfl)
@[simp] theorem f87 {n : Nat} (h : n * 8 < 140737488355328) : fits Try.prog 87 n = true := fits_of (sz := 1) (b := 8) (by kernel_rfl) (by decide) (by decide) h
end Go.Proofs.Ytmoegiibdaomlaa.B
