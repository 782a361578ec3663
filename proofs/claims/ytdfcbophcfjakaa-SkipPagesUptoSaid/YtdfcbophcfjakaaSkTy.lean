import Derived.Test.YtdfcbophcfjakaaAb24
import Derived.Laws.Closers25b
import Derived.Test.YtdfcbophcfjakaaRows
set_option linter.unusedSimpArgs false
set_option linter.unusedVariables false
set_option linter.unusedSectionVars false
/- Facts about the types of this program. (Written by types.py.) -/
set_option maxRecDepth 20000
namespace Go.Proofs.Ytdfcbophcfjakaa.B
open Go Go.Ab
/-! 2: int64 -/
@[simp] theorem u2 : Try.prog.underlying 2 = some (TypeDesc.int IntKind.i64) := by kernel_rfl
@[simp] theorem z2 : sizeOf? Try.prog 2 = some 1 := by kernel_rfl
@[simp] theorem v2 : zeroV Try.prog 2 = some [V.int IntKind.i64 0] := by kernel_rfl
@[simp] theorem g2 (cs : List V) (off : Nat) : getV Try.prog 2 cs off = cs[off]? := getV_flat (by kernel_rfl) (by kernel_rfl)
@[simp] theorem f2 {n : Nat} (h : n * 8 < 140737488355328) : fits Try.prog 2 n = true := fits_of (sz := 1) (b := 8) (by kernel_rfl) (by decide) (by decide) h
/-! 3: int -/
@[simp] theorem u3 : Try.prog.underlying 3 = some (TypeDesc.int IntKind.i64) := by kernel_rfl
@[simp] theorem z3 : sizeOf? Try.prog 3 = some 1 := by kernel_rfl
@[simp] theorem v3 : zeroV Try.prog 3 = some [V.int IntKind.i64 0] := by kernel_rfl
@[simp] theorem g3 (cs : List V) (off : Nat) : getV Try.prog 3 cs off = cs[off]? := getV_flat (by kernel_rfl) (by kernel_rfl)
@[simp] theorem f3 {n : Nat} (h : n * 8 < 140737488355328) : fits Try.prog 3 n = true := fits_of (sz := 1) (b := 8) (by kernel_rfl) (by decide) (by decide) h
/-! 4: bool -/
@[simp] theorem u4 : Try.prog.underlying 4 = some TypeDesc.bool := by kernel_rfl
@[simp] theorem z4 : sizeOf? Try.prog 4 = some 1 := by kernel_rfl
@[simp] theorem v4 : zeroV Try.prog 4 = some [V.bool false] := by kernel_rfl
@[simp] theorem g4 (cs : List V) (off : Nat) : getV Try.prog 4 cs off = cs[off]? := getV_flat (by kernel_rfl) (by kernel_rfl)
@[simp] theorem f4 {n : Nat} (h : n * 1 < 140737488355328) : fits Try.prog 4 n = true := fits_of (sz := 1) (b := 1) (by kernel_rfl) (by decide) (by decide) h
/-! 5: uint8 -/
@[simp] theorem u5 : Try.prog.underlying 5 = some (TypeDesc.int IntKind.u8) := by kernel_rfl
@[simp] theorem z5 : sizeOf? Try.prog 5 = some 1 := by kernel_rfl
@[simp] theorem v5 : zeroV Try.prog 5 = some [V.int IntKind.u8 0] := by kernel_rfl
@[simp] theorem g5 (cs : List V) (off : Nat) : getV Try.prog 5 cs off = cs[off]? := getV_flat (by kernel_rfl) (by kernel_rfl)
@[simp] theorem f5 {n : Nat} (h : n * 1 < 140737488355328) : fits Try.prog 5 n = true := fits_of (sz := 1) (b := 1) (by kernel_rfl) (by decide) (by decide) h
/-! 9: string -/
@[simp] theorem u9 : Try.prog.underlying 9 = some TypeDesc.string := by kernel_rfl
@[simp] theorem z9 : sizeOf? Try.prog 9 = some 1 := by kernel_rfl
@[simp] theorem v9 : zeroV Try.prog 9 = some [V.str { data := #[] }] := by kernel_rfl
@[simp] theorem g9 (cs : List V) (off : Nat) : getV Try.prog 9 cs off = cs[off]? := getV_flat (by kernel_rfl) (by kernel_rfl)
@[simp] theorem f9 {n : Nat} (h : n * 16 < 140737488355328) : fits Try.prog 9 n = true := fits_of (sz := 1) (b := 16) (by kernel_rfl) (by decide) (by decide) h
/-! 12: uintptr -/
@[simp] theorem u12 : Try.prog.underlying 12 = some (TypeDesc.int IntKind.u64) := by kernel_rfl
@[simp] theorem z12 : sizeOf? Try.prog 12 = some 1 := by kernel_rfl
@[simp] theorem v12 : zeroV Try.prog 12 = some [V.int IntKind.u64 0] := by kernel_rfl
@[simp] theorem g12 (cs : List V) (off : Nat) : getV Try.prog 12 cs off = cs[off]? := getV_flat (by kernel_rfl) (by kernel_rfl)
@[simp] theorem f12 {n : Nat} (h : n * 8 < 140737488355328) : fits Try.prog 12 n = true := fits_of (sz := 1) (b := 8) (by kernel_rfl) (by decide) (by decide) h
/-! 13: struct ( msg string; addr uintptr ) -/
@[simp] theorem u13 : Try.prog.underlying 13 = some (TypeDesc.struct #[{ name := "msg", type := 9, offset := 0, embedded := false, tag := "", pkgPath := "runtime", byteOffset := 0 }, { name := "addr", type := 12, offset := 1, embedded := false, tag := "", pkgPath := "runtime", byteOffset := 16 }]) := by kernel_rfl
@[simp] theorem z13 : sizeOf? Try.prog 13 = some 2 := by kernel_rfl
@[simp] theorem v13 : zeroV Try.prog 13 = some [V.str { data := #[] }, V.int IntKind.u64 0] := by kernel_rfl
@[simp] theorem g13 (cs : List V) (off : Nat) : getV Try.prog 13 cs off = if off + 2 ≤ cs.length then some (.agg ((cs.drop off).take 2)) else none := getV_agg (by kernel_rfl) (by kernel_rfl) (by kernel_rfl)
@[simp] theorem f13 {n : Nat} (h : n * 24 < 140737488355328) : fits Try.prog 13 n = true := fits_of (sz := 2) (b := 24) (by kernel_rfl) (by decide) (by decide) h
@[simp] theorem s13 : sized Try.prog 13 = true := by kernel_rfl
@[simp] theorem p13_0 : placeOf Try.prog 13 0 = some (0, 1) := by kernel_rfl
@[simp] theorem p13_1 : placeOf Try.prog 13 1 = some (1, 1) := by kernel_rfl
/-! 21: int32 -/
@[simp] theorem u21 : Try.prog.underlying 21 = some (TypeDesc.int IntKind.i32) := by kernel_rfl
@[simp] theorem z21 : sizeOf? Try.prog 21 = some 1 := by kernel_rfl
@[simp] theorem v21 : zeroV Try.prog 21 = some [V.int IntKind.i32 0] := by kernel_rfl
@[simp] theorem g21 (cs : List V) (off : Nat) : getV Try.prog 21 cs off = cs[off]? := getV_flat (by kernel_rfl) (by kernel_rfl)
@[simp] theorem f21 {n : Nat} (h : n * 4 < 140737488355328) : fits Try.prog 21 n = true := fits_of (sz := 1) (b := 4) (by kernel_rfl) (by decide) (by decide) h
/-! 22: []int -/
@[simp] theorem u22 : Try.prog.underlying 22 = some (TypeDesc.slice 3) := by kernel_rfl
@[simp] theorem z22 : sizeOf? Try.prog 22 = some 1 := by kernel_rfl
@[simp] theorem v22 : zeroV Try.prog 22 = some [V.nils] := by kernel_rfl
@[simp] theorem g22 (cs : List V) (off : Nat) : getV Try.prog 22 cs off = cs[off]? := getV_flat (by kernel_rfl) (by kernel_rfl)
@[simp] theorem f22 {n : Nat} (h : n * 24 < 140737488355328) : fits Try.prog 22 n = true := fits_of (sz := 1) (b := 24) (by kernel_rfl) (by decide) (by decide) h
/-! 23: []stoalaw18.Op -/
@[simp] theorem u23 : Try.prog.underlying 23 = some (TypeDesc.slice 32) := by kernel_rfl
@[simp] theorem z23 : sizeOf? Try.prog 23 = some 1 := by kernel_rfl
@[simp] theorem v23 : zeroV Try.prog 23 = some [V.nils] := by kernel_rfl
@[simp] theorem g23 (cs : List V) (off : Nat) : getV Try.prog 23 cs off = cs[off]? := getV_flat (by kernel_rfl) (by kernel_rfl)
@[simp] theorem f23 {n : Nat} (h : n * 24 < 140737488355328) : fits Try.prog 23 n = true := fits_of (sz := 1) (b := 24) (by kernel_rfl) (by decide) (by decide) h
/-! 24: *skip.List -/
@[simp] theorem u24 : Try.prog.underlying 24 = some (TypeDesc.pointer 60) := by kernel_rfl
@[simp] theorem z24 : sizeOf? Try.prog 24 = some 1 := by kernel_rfl
@[simp] theorem v24 : zeroV Try.prog 24 = some [V.nilp] := by kernel_rfl
@[simp] theorem g24 (cs : List V) (off : Nat) : getV Try.prog 24 cs off = cs[off]? := getV_flat (by kernel_rfl) (by kernel_rfl)
@[simp] theorem f24 {n : Nat} (h : n * 8 < 140737488355328) : fits Try.prog 24 n = true := fits_of (sz := 1) (b := 8) (by kernel_rfl) (by decide) (by decide) h
/-! 27: [][]uint8 -/
@[simp] theorem u27 : Try.prog.underlying 27 = some (TypeDesc.slice 30) := by kernel_rfl
@[simp] theorem z27 : sizeOf? Try.prog 27 = some 1 := by kernel_rfl
@[simp] theorem v27 : zeroV Try.prog 27 = some [V.nils] := by kernel_rfl
@[simp] theorem g27 (cs : List V) (off : Nat) : getV Try.prog 27 cs off = cs[off]? := getV_flat (by kernel_rfl) (by kernel_rfl)
@[simp] theorem f27 {n : Nat} (h : n * 24 < 140737488355328) : fits Try.prog 27 n = true := fits_of (sz := 1) (b := 24) (by kernel_rfl) (by decide) (by decide) h
/-! 28: struct ( Keys [][]uint8; Values []int ) -/
@[simp] theorem u28 : Try.prog.underlying 28 = some (TypeDesc.struct #[{ name := "Keys", type := 27, offset := 0, embedded := false, tag := "", pkgPath := "", byteOffset := 0 }, { name := "Values", type := 22, offset := 1, embedded := false, tag := "", pkgPath := "", byteOffset := 24 }]) := by kernel_rfl
@[simp] theorem z28 : sizeOf? Try.prog 28 = some 2 := by kernel_rfl
@[simp] theorem v28 : zeroV Try.prog 28 = some [V.nils, V.nils] := by kernel_rfl
@[simp] theorem g28 (cs : List V) (off : Nat) : getV Try.prog 28 cs off = if off + 2 ≤ cs.length then some (.agg ((cs.drop off).take 2)) else none := getV_agg (by kernel_rfl) (by kernel_rfl) (by kernel_rfl)
@[simp] theorem f28 {n : Nat} (h : n * 48 < 140737488355328) : fits Try.prog 28 n = true := fits_of (sz := 2) (b := 48) (by kernel_rfl) (by decide) (by decide) h
@[simp] theorem s28 : sized Try.prog 28 = true := by kernel_rfl
@[simp] theorem p28_0 : placeOf Try.prog 28 0 = some (0, 1) := by kernel_rfl
@[simp] theorem p28_1 : placeOf Try.prog 28 1 = some (1, 1) := by kernel_rfl
/-! 29: stoaref18.List = stoa/stoaref18.List -/
@[simp] theorem u29 : Try.prog.underlying 29 = some (TypeDesc.struct #[{ name := "Keys", type := 27, offset := 0, embedded := false, tag := "", pkgPath := "", byteOffset := 0 }, { name := "Values", type := 22, offset := 1, embedded := false, tag := "", pkgPath := "", byteOffset := 24 }]) := by kernel_rfl
@[simp] theorem z29 : sizeOf? Try.prog 29 = some 2 := by kernel_rfl
@[simp] theorem v29 : zeroV Try.prog 29 = some [V.nils, V.nils] := by kernel_rfl
@[simp] theorem g29 (cs : List V) (off : Nat) : getV Try.prog 29 cs off = if off + 2 ≤ cs.length then some (.agg ((cs.drop off).take 2)) else none := getV_agg (by kernel_rfl) (by kernel_rfl) (by kernel_rfl)
@[simp] theorem f29 {n : Nat} (h : n * 48 < 140737488355328) : fits Try.prog 29 n = true := fits_of (sz := 2) (b := 48) (by kernel_rfl) (by decide) (by decide) h
@[simp] theorem s29 : sized Try.prog 29 = true := by kernel_rfl
@[simp] theorem p29_0 : placeOf Try.prog 29 0 = some (0, 1) := by kernel_rfl
@[simp] theorem p29_1 : placeOf Try.prog 29 1 = some (1, 1) := by kernel_rfl
/-! 30: []uint8 -/
@[simp] theorem u30 : Try.prog.underlying 30 = some (TypeDesc.slice 5) := by kernel_rfl
@[simp] theorem z30 : sizeOf? Try.prog 30 = some 1 := by kernel_rfl
@[simp] theorem v30 : zeroV Try.prog 30 = some [V.nils] := by kernel_rfl
@[simp] theorem g30 (cs : List V) (off : Nat) : getV Try.prog 30 cs off = cs[off]? := getV_flat (by kernel_rfl) (by kernel_rfl)
@[simp] theorem f30 {n : Nat} (h : n * 24 < 140737488355328) : fits Try.prog 30 n = true := fits_of (sz := 1) (b := 24) (by kernel_rfl) (by decide) (by decide) h
/-! 31: struct ( Kind int; Key []uint8; High []uint8; Value int ) -/
@[simp] theorem u31 : Try.prog.underlying 31 = some (TypeDesc.struct #[{ name := "Kind", type := 3, offset := 0, embedded := false, tag := "", pkgPath := "", byteOffset := 0 }, { name := "Key", type := 30, offset := 1, embedded := false, tag := "", pkgPath := "", byteOffset := 8 }, { name := "High", type := 30, offset := 2, embedded := false, tag := "", pkgPath := "", byteOffset := 32 }, { name := "Value", type := 3, offset := 3, embedded := false, tag := "", pkgPath := "", byteOffset := 56 }]) := by kernel_rfl
@[simp] theorem z31 : sizeOf? Try.prog 31 = some 4 := by kernel_rfl
@[simp] theorem v31 : zeroV Try.prog 31 = some [V.int IntKind.i64 0, V.nils, V.nils, V.int IntKind.i64 0] := by kernel_rfl
@[simp] theorem g31 (cs : List V) (off : Nat) : getV Try.prog 31 cs off = if off + 4 ≤ cs.length then some (.agg ((cs.drop off).take 4)) else none := getV_agg (by kernel_rfl) (by kernel_rfl) (by kernel_rfl)
@[simp] theorem f31 {n : Nat} (h : n * 64 < 140737488355328) : fits Try.prog 31 n = true := fits_of (sz := 4) (b := 64) (by kernel_rfl) (by decide) (by decide) h
@[simp] theorem s31 : sized Try.prog 31 = true := by kernel_rfl
@[simp] theorem p31_0 : placeOf Try.prog 31 0 = some (0, 1) := by kernel_rfl
@[simp] theorem p31_1 : placeOf Try.prog 31 1 = some (1, 1) := by kernel_rfl
@[simp] theorem p31_2 : placeOf Try.prog 31 2 = some (2, 1) := by kernel_rfl
@[simp] theorem p31_3 : placeOf Try.prog 31 3 = some (3, 1) := by kernel_rfl
/-! 32: stoalaw18.Op = stoa/stoalaw18.Op -/
@[simp] theorem u32 : Try.prog.underlying 32 = some (TypeDesc.struct #[{ name := "Kind", type := 3, offset := 0, embedded := false, tag := "", pkgPath := "", byteOffset := 0 }, { name := "Key", type := 30, offset := 1, embedded := false, tag := "", pkgPath := "", byteOffset := 8 }, { name := "High", type := 30, offset := 2, embedded := false, tag := "", pkgPath := "", byteOffset := 32 }, { name := "Value", type := 3, offset := 3, embedded := false, tag := "", pkgPath := "", byteOffset := 56 }]) := by kernel_rfl
@[simp] theorem z32 : sizeOf? Try.prog 32 = some 4 := by kernel_rfl
@[simp] theorem v32 : zeroV Try.prog 32 = some [V.int IntKind.i64 0, V.nils, V.nils, V.int IntKind.i64 0] := by kernel_rfl
@[simp] theorem g32 (cs : List V) (off : Nat) : getV Try.prog 32 cs off = if off + 4 ≤ cs.length then some (.agg ((cs.drop off).take 4)) else none := getV_agg (by kernel_rfl) (by kernel_rfl) (by kernel_rfl)
@[simp] theorem f32 {n : Nat} (h : n * 64 < 140737488355328) : fits Try.prog 32 n = true := fits_of (sz := 4) (b := 64) (by kernel_rfl) (by decide) (by decide) h
@[simp] theorem s32 : sized Try.prog 32 = true := by kernel_rfl
@[simp] theorem p32_0 : placeOf Try.prog 32 0 = some (0, 1) := by kernel_rfl
@[simp] theorem p32_1 : placeOf Try.prog 32 1 = some (1, 1) := by kernel_rfl
@[simp] theorem p32_2 : placeOf Try.prog 32 2 = some (2, 1) := by kernel_rfl
@[simp] theorem p32_3 : placeOf Try.prog 32 3 = some (3, 1) := by kernel_rfl
/-! 58: []skip.node -/
@[simp] theorem u58 : Try.prog.underlying 58 = some (TypeDesc.slice 75) := by kernel_rfl
@[simp] theorem z58 : sizeOf? Try.prog 58 = some 1 := by kernel_rfl
@[simp] theorem v58 : zeroV Try.prog 58 = some [V.nils] := by kernel_rfl
@[simp] theorem g58 (cs : List V) (off : Nat) : getV Try.prog 58 cs off = cs[off]? := getV_flat (by kernel_rfl) (by kernel_rfl)
@[simp] theorem f58 {n : Nat} (h : n * 24 < 140737488355328) : fits Try.prog 58 n = true := fits_of (sz := 1) (b := 24) (by kernel_rfl) (by decide) (by decide) h
/-! 59: struct ( nodes []skip.node; heights []int; taken int; height int ) -/
@[simp] theorem u59 : Try.prog.underlying 59 = some (TypeDesc.struct #[{ name := "nodes", type := 58, offset := 0, embedded := false, tag := "", pkgPath := "stoa/skip", byteOffset := 0 }, { name := "heights", type := 22, offset := 1, embedded := false, tag := "", pkgPath := "stoa/skip", byteOffset := 24 }, { name := "taken", type := 3, offset := 2, embedded := false, tag := "", pkgPath := "stoa/skip", byteOffset := 48 }, { name := "height", type := 3, offset := 3, embedded := false, tag := "", pkgPath := "stoa/skip", byteOffset := 56 }]) := by kernel_rfl
@[simp] theorem z59 : sizeOf? Try.prog 59 = some 4 := by kernel_rfl
@[simp] theorem v59 : zeroV Try.prog 59 = some [V.nils, V.nils, V.int IntKind.i64 0, V.int IntKind.i64 0] := by kernel_rfl
@[simp] theorem g59 (cs : List V) (off : Nat) : getV Try.prog 59 cs off = if off + 4 ≤ cs.length then some (.agg ((cs.drop off).take 4)) else none := getV_agg (by kernel_rfl) (by kernel_rfl) (by kernel_rfl)
@[simp] theorem f59 {n : Nat} (h : n * 64 < 140737488355328) : fits Try.prog 59 n = true := fits_of (sz := 4) (b := 64) (by kernel_rfl) (by decide) (by decide) h
@[simp] theorem s59 : sized Try.prog 59 = true := by kernel_rfl
@[simp] theorem p59_0 : placeOf Try.prog 59 0 = some (0, 1) := by kernel_rfl
@[simp] theorem p59_1 : placeOf Try.prog 59 1 = some (1, 1) := by kernel_rfl
@[simp] theorem p59_2 : placeOf Try.prog 59 2 = some (2, 1) := by kernel_rfl
@[simp] theorem p59_3 : placeOf Try.prog 59 3 = some (3, 1) := by kernel_rfl
/-! 60: skip.List = stoa/skip.List -/
@[simp] theorem u60 : Try.prog.underlying 60 = some (TypeDesc.struct #[{ name := "nodes", type := 58, offset := 0, embedded := false, tag := "", pkgPath := "stoa/skip", byteOffset := 0 }, { name := "heights", type := 22, offset := 1, embedded := false, tag := "", pkgPath := "stoa/skip", byteOffset := 24 }, { name := "taken", type := 3, offset := 2, embedded := false, tag := "", pkgPath := "stoa/skip", byteOffset := 48 }, { name := "height", type := 3, offset := 3, embedded := false, tag := "", pkgPath := "stoa/skip", byteOffset := 56 }]) := by kernel_rfl
@[simp] theorem z60 : sizeOf? Try.prog 60 = some 4 := by kernel_rfl
@[simp] theorem v60 : zeroV Try.prog 60 = some [V.nils, V.nils, V.int IntKind.i64 0, V.int IntKind.i64 0] := by kernel_rfl
@[simp] theorem g60 (cs : List V) (off : Nat) : getV Try.prog 60 cs off = if off + 4 ≤ cs.length then some (.agg ((cs.drop off).take 4)) else none := getV_agg (by kernel_rfl) (by kernel_rfl) (by kernel_rfl)
@[simp] theorem f60 {n : Nat} (h : n * 64 < 140737488355328) : fits Try.prog 60 n = true := fits_of (sz := 4) (b := 64) (by kernel_rfl) (by decide) (by decide) h
@[simp] theorem s60 : sized Try.prog 60 = true := by kernel_rfl
@[simp] theorem p60_0 : placeOf Try.prog 60 0 = some (0, 1) := by kernel_rfl
@[simp] theorem p60_1 : placeOf Try.prog 60 1 = some (1, 1) := by kernel_rfl
@[simp] theorem p60_2 : placeOf Try.prog 60 2 = some (2, 1) := by kernel_rfl
@[simp] theorem p60_3 : placeOf Try.prog 60 3 = some (3, 1) := by kernel_rfl
/-! 69: [12]int -/
@[simp] theorem u69 : Try.prog.underlying 69 = some (TypeDesc.array 12 3) := by kernel_rfl
@[simp] theorem z69 : sizeOf? Try.prog 69 = some 12 := by kernel_rfl
@[simp] theorem v69 : zeroV Try.prog 69 = some [V.int IntKind.i64 0, V.int IntKind.i64 0, V.int IntKind.i64 0, V.int IntKind.i64 0, V.int IntKind.i64 0, V.int IntKind.i64 0, V.int IntKind.i64 0, V.int IntKind.i64 0, V.int IntKind.i64 0, V.int IntKind.i64 0, V.int IntKind.i64 0, V.int IntKind.i64 0] := by kernel_rfl
@[simp] theorem g69 (cs : List V) (off : Nat) : getV Try.prog 69 cs off = if off + 12 ≤ cs.length then some (.agg ((cs.drop off).take 12)) else none := getV_agg (by kernel_rfl) (by kernel_rfl) (by kernel_rfl)
@[simp] theorem f69 {n : Nat} (h : n * 96 < 140737488355328) : fits Try.prog 69 n = true := fits_of (sz := 12) (b := 96) (by kernel_rfl) (by decide) (by decide) h
@[simp] theorem e69 : flat Try.prog 69 = some (List.replicate 12 (.int IntKind.i64)) := by kernel_rfl
@[simp] theorem s69 : sized Try.prog 69 = true := by kernel_rfl
@[simp] theorem p69_0 : placeOf Try.prog 69 0 = some (0, 1) := by kernel_rfl
@[simp] theorem p69_1 : placeOf Try.prog 69 1 = some (1, 1) := by kernel_rfl
@[simp] theorem p69_2 : placeOf Try.prog 69 2 = some (2, 1) := by kernel_rfl
@[simp] theorem p69_3 : placeOf Try.prog 69 3 = some (3, 1) := by kernel_rfl
@[simp] theorem p69_4 : placeOf Try.prog 69 4 = some (4, 1) := by kernel_rfl
@[simp] theorem p69_5 : placeOf Try.prog 69 5 = some (5, 1) := by kernel_rfl
@[simp] theorem p69_6 : placeOf Try.prog 69 6 = some (6, 1) := by kernel_rfl
@[simp] theorem p69_7 : placeOf Try.prog 69 7 = some (7, 1) := by kernel_rfl
@[simp] theorem p69_8 : placeOf Try.prog 69 8 = some (8, 1) := by kernel_rfl
@[simp] theorem p69_9 : placeOf Try.prog 69 9 = some (9, 1) := by kernel_rfl
@[simp] theorem p69_10 : placeOf Try.prog 69 10 = some (10, 1) := by kernel_rfl
@[simp] theorem p69_11 : placeOf Try.prog 69 11 = some (11, 1) := by kernel_rfl
@[simp] theorem p69_12 : placeOf Try.prog 69 12 = some (12, 1) := by kernel_rfl
@[simp] theorem p69_13 : placeOf Try.prog 69 13 = some (13, 1) := by kernel_rfl
@[simp] theorem p69_14 : placeOf Try.prog 69 14 = some (14, 1) := by kernel_rfl
@[simp] theorem p69_15 : placeOf Try.prog 69 15 = some (15, 1) := by kernel_rfl
@[simp] theorem p69_16 : placeOf Try.prog 69 16 = some (16, 1) := by kernel_rfl
@[simp] theorem p69_17 : placeOf Try.prog 69 17 = some (17, 1) := by kernel_rfl
@[simp] theorem p69_18 : placeOf Try.prog 69 18 = some (18, 1) := by kernel_rfl
@[simp] theorem p69_19 : placeOf Try.prog 69 19 = some (19, 1) := by kernel_rfl
@[simp] theorem p69_20 : placeOf Try.prog 69 20 = some (20, 1) := by kernel_rfl
@[simp] theorem p69_21 : placeOf Try.prog 69 21 = some (21, 1) := by kernel_rfl
@[simp] theorem p69_22 : placeOf Try.prog 69 22 = some (22, 1) := by kernel_rfl
@[simp] theorem p69_23 : placeOf Try.prog 69 23 = some (23, 1) := by kernel_rfl
@[simp] theorem p69_24 : placeOf Try.prog 69 24 = some (24, 1) := by kernel_rfl
@[simp] theorem p69_25 : placeOf Try.prog 69 25 = some (25, 1) := by kernel_rfl
@[simp] theorem p69_26 : placeOf Try.prog 69 26 = some (26, 1) := by kernel_rfl
@[simp] theorem p69_27 : placeOf Try.prog 69 27 = some (27, 1) := by kernel_rfl
@[simp] theorem p69_28 : placeOf Try.prog 69 28 = some (28, 1) := by kernel_rfl
@[simp] theorem p69_29 : placeOf Try.prog 69 29 = some (29, 1) := by kernel_rfl
@[simp] theorem p69_30 : placeOf Try.prog 69 30 = some (30, 1) := by kernel_rfl
@[simp] theorem p69_31 : placeOf Try.prog 69 31 = some (31, 1) := by kernel_rfl
@[simp] theorem p69_32 : placeOf Try.prog 69 32 = some (32, 1) := by kernel_rfl
@[simp] theorem p69_33 : placeOf Try.prog 69 33 = some (33, 1) := by kernel_rfl
@[simp] theorem p69_34 : placeOf Try.prog 69 34 = some (34, 1) := by kernel_rfl
@[simp] theorem p69_35 : placeOf Try.prog 69 35 = some (35, 1) := by kernel_rfl
@[simp] theorem p69_36 : placeOf Try.prog 69 36 = some (36, 1) := by kernel_rfl
@[simp] theorem p69_37 : placeOf Try.prog 69 37 = some (37, 1) := by kernel_rfl
@[simp] theorem p69_38 : placeOf Try.prog 69 38 = some (38, 1) := by kernel_rfl
@[simp] theorem p69_39 : placeOf Try.prog 69 39 = some (39, 1) := by kernel_rfl
/-! 70: skip.tower = stoa/skip.tower -/
@[simp] theorem u70 : Try.prog.underlying 70 = some (TypeDesc.array 12 3) := by kernel_rfl
@[simp] theorem z70 : sizeOf? Try.prog 70 = some 12 := by kernel_rfl
@[simp] theorem v70 : zeroV Try.prog 70 = some [V.int IntKind.i64 0, V.int IntKind.i64 0, V.int IntKind.i64 0, V.int IntKind.i64 0, V.int IntKind.i64 0, V.int IntKind.i64 0, V.int IntKind.i64 0, V.int IntKind.i64 0, V.int IntKind.i64 0, V.int IntKind.i64 0, V.int IntKind.i64 0, V.int IntKind.i64 0] := by kernel_rfl
@[simp] theorem g70 (cs : List V) (off : Nat) : getV Try.prog 70 cs off = if off + 12 ≤ cs.length then some (.agg ((cs.drop off).take 12)) else none := getV_agg (by kernel_rfl) (by kernel_rfl) (by kernel_rfl)
@[simp] theorem f70 {n : Nat} (h : n * 96 < 140737488355328) : fits Try.prog 70 n = true := fits_of (sz := 12) (b := 96) (by kernel_rfl) (by decide) (by decide) h
@[simp] theorem e70 : flat Try.prog 70 = some (List.replicate 12 (.int IntKind.i64)) := by kernel_rfl
@[simp] theorem s70 : sized Try.prog 70 = true := by kernel_rfl
@[simp] theorem p70_0 : placeOf Try.prog 70 0 = some (0, 1) := by kernel_rfl
@[simp] theorem p70_1 : placeOf Try.prog 70 1 = some (1, 1) := by kernel_rfl
@[simp] theorem p70_2 : placeOf Try.prog 70 2 = some (2, 1) := by kernel_rfl
@[simp] theorem p70_3 : placeOf Try.prog 70 3 = some (3, 1) := by kernel_rfl
@[simp] theorem p70_4 : placeOf Try.prog 70 4 = some (4, 1) := by kernel_rfl
@[simp] theorem p70_5 : placeOf Try.prog 70 5 = some (5, 1) := by kernel_rfl
@[simp] theorem p70_6 : placeOf Try.prog 70 6 = some (6, 1) := by kernel_rfl
@[simp] theorem p70_7 : placeOf Try.prog 70 7 = some (7, 1) := by kernel_rfl
@[simp] theorem p70_8 : placeOf Try.prog 70 8 = some (8, 1) := by kernel_rfl
@[simp] theorem p70_9 : placeOf Try.prog 70 9 = some (9, 1) := by kernel_rfl
@[simp] theorem p70_10 : placeOf Try.prog 70 10 = some (10, 1) := by kernel_rfl
@[simp] theorem p70_11 : placeOf Try.prog 70 11 = some (11, 1) := by kernel_rfl
@[simp] theorem p70_12 : placeOf Try.prog 70 12 = some (12, 1) := by kernel_rfl
@[simp] theorem p70_13 : placeOf Try.prog 70 13 = some (13, 1) := by kernel_rfl
@[simp] theorem p70_14 : placeOf Try.prog 70 14 = some (14, 1) := by kernel_rfl
@[simp] theorem p70_15 : placeOf Try.prog 70 15 = some (15, 1) := by kernel_rfl
@[simp] theorem p70_16 : placeOf Try.prog 70 16 = some (16, 1) := by kernel_rfl
@[simp] theorem p70_17 : placeOf Try.prog 70 17 = some (17, 1) := by kernel_rfl
@[simp] theorem p70_18 : placeOf Try.prog 70 18 = some (18, 1) := by kernel_rfl
@[simp] theorem p70_19 : placeOf Try.prog 70 19 = some (19, 1) := by kernel_rfl
@[simp] theorem p70_20 : placeOf Try.prog 70 20 = some (20, 1) := by kernel_rfl
@[simp] theorem p70_21 : placeOf Try.prog 70 21 = some (21, 1) := by kernel_rfl
@[simp] theorem p70_22 : placeOf Try.prog 70 22 = some (22, 1) := by kernel_rfl
@[simp] theorem p70_23 : placeOf Try.prog 70 23 = some (23, 1) := by kernel_rfl
@[simp] theorem p70_24 : placeOf Try.prog 70 24 = some (24, 1) := by kernel_rfl
@[simp] theorem p70_25 : placeOf Try.prog 70 25 = some (25, 1) := by kernel_rfl
@[simp] theorem p70_26 : placeOf Try.prog 70 26 = some (26, 1) := by kernel_rfl
@[simp] theorem p70_27 : placeOf Try.prog 70 27 = some (27, 1) := by kernel_rfl
@[simp] theorem p70_28 : placeOf Try.prog 70 28 = some (28, 1) := by kernel_rfl
@[simp] theorem p70_29 : placeOf Try.prog 70 29 = some (29, 1) := by kernel_rfl
@[simp] theorem p70_30 : placeOf Try.prog 70 30 = some (30, 1) := by kernel_rfl
@[simp] theorem p70_31 : placeOf Try.prog 70 31 = some (31, 1) := by kernel_rfl
@[simp] theorem p70_32 : placeOf Try.prog 70 32 = some (32, 1) := by kernel_rfl
@[simp] theorem p70_33 : placeOf Try.prog 70 33 = some (33, 1) := by kernel_rfl
@[simp] theorem p70_34 : placeOf Try.prog 70 34 = some (34, 1) := by kernel_rfl
@[simp] theorem p70_35 : placeOf Try.prog 70 35 = some (35, 1) := by kernel_rfl
@[simp] theorem p70_36 : placeOf Try.prog 70 36 = some (36, 1) := by kernel_rfl
@[simp] theorem p70_37 : placeOf Try.prog 70 37 = some (37, 1) := by kernel_rfl
@[simp] theorem p70_38 : placeOf Try.prog 70 38 = some (38, 1) := by kernel_rfl
@[simp] theorem p70_39 : placeOf Try.prog 70 39 = some (39, 1) := by kernel_rfl
/-! 74: struct ( key []uint8; value int; next skip.tower ) -/
@[simp] theorem u74 : Try.prog.underlying 74 = some (TypeDesc.struct #[{ name := "key", type := 30, offset := 0, embedded := false, tag := "", pkgPath := "stoa/skip", byteOffset := 0 }, { name := "value", type := 3, offset := 1, embedded := false, tag := "", pkgPath := "stoa/skip", byteOffset := 24 }, { name := "next", type := 70, offset := 2, embedded := false, tag := "", pkgPath := "stoa/skip", byteOffset := 32 }]) := by kernel_rfl
@[simp] theorem z74 : sizeOf? Try.prog 74 = some 14 := by kernel_rfl
@[simp] theorem v74 : zeroV Try.prog 74 = some [V.nils, V.int IntKind.i64 0, V.int IntKind.i64 0, V.int IntKind.i64 0, V.int IntKind.i64 0, V.int IntKind.i64 0, V.int IntKind.i64 0, V.int IntKind.i64 0, V.int IntKind.i64 0, V.int IntKind.i64 0, V.int IntKind.i64 0, V.int IntKind.i64 0, V.int IntKind.i64 0, V.int IntKind.i64 0] := by kernel_rfl
@[simp] theorem g74 (cs : List V) (off : Nat) : getV Try.prog 74 cs off = if off + 14 ≤ cs.length then some (.agg ((cs.drop off).take 14)) else none := getV_agg (by kernel_rfl) (by kernel_rfl) (by kernel_rfl)
@[simp] theorem f74 {n : Nat} (h : n * 128 < 140737488355328) : fits Try.prog 74 n = true := fits_of (sz := 14) (b := 128) (by kernel_rfl) (by decide) (by decide) h
@[simp] theorem s74 : sized Try.prog 74 = true := by kernel_rfl
@[simp] theorem p74_0 : placeOf Try.prog 74 0 = some (0, 1) := by kernel_rfl
@[simp] theorem p74_1 : placeOf Try.prog 74 1 = some (1, 1) := by kernel_rfl
@[simp] theorem p74_2 : placeOf Try.prog 74 2 = some (2, 12) := by kernel_rfl
/-! 75: skip.node = stoa/skip.node -/
@[simp] theorem u75 : Try.prog.underlying 75 = some (TypeDesc.struct #[{ name := "key", type := 30, offset := 0, embedded := false, tag := "", pkgPath := "stoa/skip", byteOffset := 0 }, { name := "value", type := 3, offset := 1, embedded := false, tag := "", pkgPath := "stoa/skip", byteOffset := 24 }, { name := "next", type := 70, offset := 2, embedded := false, tag := "", pkgPath := "stoa/skip", byteOffset := 32 }]) := by kernel_rfl
@[simp] theorem z75 : sizeOf? Try.prog 75 = some 14 := by kernel_rfl
@[simp] theorem v75 : zeroV Try.prog 75 = some [V.nils, V.int IntKind.i64 0, V.int IntKind.i64 0, V.int IntKind.i64 0, V.int IntKind.i64 0, V.int IntKind.i64 0, V.int IntKind.i64 0, V.int IntKind.i64 0, V.int IntKind.i64 0, V.int IntKind.i64 0, V.int IntKind.i64 0, V.int IntKind.i64 0, V.int IntKind.i64 0, V.int IntKind.i64 0] := by kernel_rfl
@[simp] theorem g75 (cs : List V) (off : Nat) : getV Try.prog 75 cs off = if off + 14 ≤ cs.length then some (.agg ((cs.drop off).take 14)) else none := getV_agg (by kernel_rfl) (by kernel_rfl) (by kernel_rfl)
@[simp] theorem f75 {n : Nat} (h : n * 128 < 140737488355328) : fits Try.prog 75 n = true := fits_of (sz := 14) (b := 128) (by kernel_rfl) (by decide) (by decide) h
@[simp] theorem s75 : sized Try.prog 75 = true := by kernel_rfl
@[simp] theorem p75_0 : placeOf Try.prog 75 0 = some (0, 1) := by kernel_rfl
@[simp] theorem p75_1 : placeOf Try.prog 75 1 = some (1, 1) := by kernel_rfl
@[simp] theorem p75_2 : placeOf Try.prog 75 2 = some (2, 12) := by kernel_rfl
/-! 82: uint32 -/
@[simp] theorem u82 : Try.prog.underlying 82 = some (TypeDesc.int IntKind.u32) := by kernel_rfl
@[simp] theorem z82 : sizeOf? Try.prog 82 = some 1 := by kernel_rfl
@[simp] theorem v82 : zeroV Try.prog 82 = some [V.int IntKind.u32 0] := by kernel_rfl
@[simp] theorem g82 (cs : List V) (off : Nat) : getV Try.prog 82 cs off = cs[off]? := getV_flat (by kernel_rfl) (by kernel_rfl)
@[simp] theorem f82 {n : Nat} (h : n * 4 < 140737488355328) : fits Try.prog 82 n = true := fits_of (sz := 1) (b := 4) (by kernel_rfl) (by decide) (by decide) h
/-! 86: *uint8 -/
@[simp] theorem u86 : Try.prog.underlying 86 = some (TypeDesc.pointer 5) := by kernel_rfl
@[simp] theorem z86 : sizeOf? Try.prog 86 = some 1 := by kernel_rfl
@[simp] theorem v86 : zeroV Try.prog 86 = some [V.nilp] := by kernel_rfl
@[simp] theorem g86 (cs : List V) (off : Nat) : getV Try.prog 86 cs off = cs[off]? := getV_flat (by kernel_rfl) (by kernel_rfl)
@[simp] theorem f86 {n : Nat} (h : n * 8 < 140737488355328) : fits Try.prog 86 n = true := fits_of (sz := 1) (b := 8) (by kernel_rfl) (by decide) (by decide) h
/-! 91: unsafe.Pointer -/
@[simp] theorem u91 : Try.prog.underlying 91 = some TypeDesc.unsafePointer := by kernel_rfl
@[simp] theorem z91 : sizeOf? Try.prog 91 = some 1 := by kernel_rfl
@[simp] theorem v91 : zeroV Try.prog 91 = some [V.nilp] := by kernel_rfl
@[simp] theorem g91 (cs : List V) (off : Nat) : getV Try.prog 91 cs off = cs[off]? := getV_flat (by kernel_rfl) (by kernel_rfl)
@[simp] theorem f91 {n : Nat} (h : n * 8 < 140737488355328) : fits Try.prog 91 n = true := fits_of (sz := 1) (b := 8) (by kernel_rfl) (by decide) (by decide) h
end Go.Proofs.Ytdfcbophcfjakaa.B
