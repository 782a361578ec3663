import Derived.Test.YtiaihiccaoibgaaDoorAb24
import Derived.Laws.Closers25b
import Derived.Test.YtiaihiccaoibgaaDoorRows
set_option linter.unusedSimpArgs false
set_option linter.unusedVariables false
set_option linter.unusedSectionVars false
/- Facts about the types of this program. (Written by types.py.) -/
set_option maxRecDepth 20000
namespace Go.Proofs.YtiaihiccaoibgaaDoor.B
open Go Go.Ab
/-! 2: int64 -/
@[simp] theorem u2 : Tryd.prog.underlying 2 = some (TypeDesc.int IntKind.i64) := by kernel_rfl
@[simp] theorem z2 : sizeOf? Tryd.prog 2 = some 1 := by kernel_rfl
@[simp] theorem v2 : zeroV Tryd.prog 2 = some [V.int IntKind.i64 0] := by kernel_rfl
@[simp] theorem g2 (cs : List V) (off : Nat) : getV Tryd.prog 2 cs off = cs[off]? := getV_flat (by kernel_rfl) (by kernel_rfl)
@[simp] theorem f2 {n : Nat} (h : n * 8 < 140737488355328) : fits Tryd.prog 2 n = true := fits_of (sz := 1) (b := 8) (by kernel_rfl) (by decide) (by decide) h
/-! 3: int -/
@[simp] theorem u3 : Tryd.prog.underlying 3 = some (TypeDesc.int IntKind.i64) := by kernel_rfl
@[simp] theorem z3 : sizeOf? Tryd.prog 3 = some 1 := by kernel_rfl
@[simp] theorem v3 : zeroV Tryd.prog 3 = some [V.int IntKind.i64 0] := by kernel_rfl
@[simp] theorem g3 (cs : List V) (off : Nat) : getV Tryd.prog 3 cs off = cs[off]? := getV_flat (by kernel_rfl) (by kernel_rfl)
@[simp] theorem f3 {n : Nat} (h : n * 8 < 140737488355328) : fits Tryd.prog 3 n = true := fits_of (sz := 1) (b := 8) (by kernel_rfl) (by decide) (by decide) h
/-! 4: bool -/
@[simp] theorem u4 : Tryd.prog.underlying 4 = some TypeDesc.bool := by kernel_rfl
@[simp] theorem z4 : sizeOf? Tryd.prog 4 = some 1 := by kernel_rfl
@[simp] theorem v4 : zeroV Tryd.prog 4 = some [V.bool false] := by kernel_rfl
@[simp] theorem g4 (cs : List V) (off : Nat) : getV Tryd.prog 4 cs off = cs[off]? := getV_flat (by kernel_rfl) (by kernel_rfl)
@[simp] theorem f4 {n : Nat} (h : n * 1 < 140737488355328) : fits Tryd.prog 4 n = true := fits_of (sz := 1) (b := 1) (by kernel_rfl) (by decide) (by decide) h
/-! 5: uint8 -/
@[simp] theorem u5 : Tryd.prog.underlying 5 = some (TypeDesc.int IntKind.u8) := by kernel_rfl
@[simp] theorem z5 : sizeOf? Tryd.prog 5 = some 1 := by kernel_rfl
@[simp] theorem v5 : zeroV Tryd.prog 5 = some [V.int IntKind.u8 0] := by kernel_rfl
@[simp] theorem g5 (cs : List V) (off : Nat) : getV Tryd.prog 5 cs off = cs[off]? := getV_flat (by kernel_rfl) (by kernel_rfl)
@[simp] theorem f5 {n : Nat} (h : n * 1 < 140737488355328) : fits Tryd.prog 5 n = true := fits_of (sz := 1) (b := 1) (by kernel_rfl) (by decide) (by decide) h
/-! 9: string -/
@[simp] theorem u9 : Tryd.prog.underlying 9 = some TypeDesc.string := by kernel_rfl
@[simp] theorem z9 : sizeOf? Tryd.prog 9 = some 1 := by kernel_rfl
@[simp] theorem v9 : zeroV Tryd.prog 9 = some [V.str { data := #[] }] := by kernel_rfl
@[simp] theorem g9 (cs : List V) (off : Nat) : getV Tryd.prog 9 cs off = cs[off]? := getV_flat (by kernel_rfl) (by kernel_rfl)
@[simp] theorem f9 {n : Nat} (h : n * 16 < 140737488355328) : fits Tryd.prog 9 n = true := fits_of (sz := 1) (b := 16) (by kernel_rfl) (by decide) (by decide) h
/-! 12: uintptr -/
@[simp] theorem u12 : Tryd.prog.underlying 12 = some (TypeDesc.int IntKind.u64) := by kernel_rfl
@[simp] theorem z12 : sizeOf? Tryd.prog 12 = some 1 := by kernel_rfl
@[simp] theorem v12 : zeroV Tryd.prog 12 = some [V.int IntKind.u64 0] := by kernel_rfl
@[simp] theorem g12 (cs : List V) (off : Nat) : getV Tryd.prog 12 cs off = cs[off]? := getV_flat (by kernel_rfl) (by kernel_rfl)
@[simp] theorem f12 {n : Nat} (h : n * 8 < 140737488355328) : fits Tryd.prog 12 n = true := fits_of (sz := 1) (b := 8) (by kernel_rfl) (by decide) (by decide) h
/-! 13: struct ( msg string; addr uintptr ) -/
@[simp] theorem u13 : Tryd.prog.underlying 13 = some (TypeDesc.struct #[{ name := "msg", type := 9, offset := 0, embedded := false, tag := "", pkgPath := "runtime", byteOffset := 0 }, { name := "addr", type := 12, offset := 1, embedded := false, tag := "", pkgPath := "runtime", byteOffset := 16 }]) := by kernel_rfl
@[simp] theorem z13 : sizeOf? Tryd.prog 13 = some 2 := by kernel_rfl
@[simp] theorem v13 : zeroV Tryd.prog 13 = some [V.str { data := #[] }, V.int IntKind.u64 0] := by kernel_rfl
@[simp] theorem g13 (cs : List V) (off : Nat) : getV Tryd.prog 13 cs off = if off + 2 ≤ cs.length then some (.agg ((cs.drop off).take 2)) else none := getV_agg (by kernel_rfl) (by kernel_rfl) (by kernel_rfl)
@[simp] theorem f13 {n : Nat} (h : n * 24 < 140737488355328) : fits Tryd.prog 13 n = true := fits_of (sz := 2) (b := 24) (by kernel_rfl) (by decide) (by decide) h
@[simp] theorem s13 : sized Tryd.prog 13 = true := by kernel_rfl
@[simp] theorem p13_0 : placeOf Tryd.prog 13 0 = some (0, 1) := by kernel_rfl
@[simp] theorem p13_1 : placeOf Tryd.prog 13 1 = some (1, 1) := by kernel_rfl
/-! 21: int32 -/
@[simp] theorem u21 : Tryd.prog.underlying 21 = some (TypeDesc.int IntKind.i32) := by kernel_rfl
@[simp] theorem z21 : sizeOf? Tryd.prog 21 = some 1 := by kernel_rfl
@[simp] theorem v21 : zeroV Tryd.prog 21 = some [V.int IntKind.i32 0] := by kernel_rfl
@[simp] theorem g21 (cs : List V) (off : Nat) : getV Tryd.prog 21 cs off = cs[off]? := getV_flat (by kernel_rfl) (by kernel_rfl)
@[simp] theorem f21 {n : Nat} (h : n * 4 < 140737488355328) : fits Tryd.prog 21 n = true := fits_of (sz := 1) (b := 4) (by kernel_rfl) (by decide) (by decide) h
/-! 22: []api.Column -/
@[simp] theorem u22 : Tryd.prog.underlying 22 = some (TypeDesc.slice 68) := by kernel_rfl
@[simp] theorem z22 : sizeOf? Tryd.prog 22 = some 1 := by kernel_rfl
@[simp] theorem v22 : zeroV Tryd.prog 22 = some [V.nils] := by kernel_rfl
@[simp] theorem g22 (cs : List V) (off : Nat) : getV Tryd.prog 22 cs off = cs[off]? := getV_flat (by kernel_rfl) (by kernel_rfl)
@[simp] theorem f22 {n : Nat} (h : n * 24 < 140737488355328) : fits Tryd.prog 22 n = true := fits_of (sz := 1) (b := 24) (by kernel_rfl) (by decide) (by decide) h
/-! 23: struct ( Cols []api.Column; Keys int ) -/
@[simp] theorem u23 : Tryd.prog.underlying 23 = some (TypeDesc.struct #[{ name := "Cols", type := 22, offset := 0, embedded := false, tag := "", pkgPath := "", byteOffset := 0 }, { name := "Keys", type := 3, offset := 1, embedded := false, tag := "", pkgPath := "", byteOffset := 24 }]) := by kernel_rfl
@[simp] theorem z23 : sizeOf? Tryd.prog 23 = some 2 := by kernel_rfl
@[simp] theorem v23 : zeroV Tryd.prog 23 = some [V.nils, V.int IntKind.i64 0] := by kernel_rfl
@[simp] theorem g23 (cs : List V) (off : Nat) : getV Tryd.prog 23 cs off = if off + 2 ≤ cs.length then some (.agg ((cs.drop off).take 2)) else none := getV_agg (by kernel_rfl) (by kernel_rfl) (by kernel_rfl)
@[simp] theorem f23 {n : Nat} (h : n * 32 < 140737488355328) : fits Tryd.prog 23 n = true := fits_of (sz := 2) (b := 32) (by kernel_rfl) (by decide) (by decide) h
@[simp] theorem s23 : sized Tryd.prog 23 = true := by kernel_rfl
@[simp] theorem p23_0 : placeOf Tryd.prog 23 0 = some (0, 1) := by kernel_rfl
@[simp] theorem p23_1 : placeOf Tryd.prog 23 1 = some (1, 1) := by kernel_rfl
/-! 24: api.Schema = stoa/api.Schema -/
@[simp] theorem u24 : Tryd.prog.underlying 24 = some (TypeDesc.struct #[{ name := "Cols", type := 22, offset := 0, embedded := false, tag := "", pkgPath := "", byteOffset := 0 }, { name := "Keys", type := 3, offset := 1, embedded := false, tag := "", pkgPath := "", byteOffset := 24 }]) := by kernel_rfl
@[simp] theorem z24 : sizeOf? Tryd.prog 24 = some 2 := by kernel_rfl
@[simp] theorem v24 : zeroV Tryd.prog 24 = some [V.nils, V.int IntKind.i64 0] := by kernel_rfl
@[simp] theorem g24 (cs : List V) (off : Nat) : getV Tryd.prog 24 cs off = if off + 2 ≤ cs.length then some (.agg ((cs.drop off).take 2)) else none := getV_agg (by kernel_rfl) (by kernel_rfl) (by kernel_rfl)
@[simp] theorem f24 {n : Nat} (h : n * 32 < 140737488355328) : fits Tryd.prog 24 n = true := fits_of (sz := 2) (b := 32) (by kernel_rfl) (by decide) (by decide) h
@[simp] theorem s24 : sized Tryd.prog 24 = true := by kernel_rfl
@[simp] theorem p24_0 : placeOf Tryd.prog 24 0 = some (0, 1) := by kernel_rfl
@[simp] theorem p24_1 : placeOf Tryd.prog 24 1 = some (1, 1) := by kernel_rfl
/-! 25: []api.Cell -/
@[simp] theorem u25 : Tryd.prog.underlying 25 = some (TypeDesc.slice 63) := by kernel_rfl
@[simp] theorem z25 : sizeOf? Tryd.prog 25 = some 1 := by kernel_rfl
@[simp] theorem v25 : zeroV Tryd.prog 25 = some [V.nils] := by kernel_rfl
@[simp] theorem g25 (cs : List V) (off : Nat) : getV Tryd.prog 25 cs off = cs[off]? := getV_flat (by kernel_rfl) (by kernel_rfl)
@[simp] theorem f25 {n : Nat} (h : n * 24 < 140737488355328) : fits Tryd.prog 25 n = true := fits_of (sz := 1) (b := 24) (by kernel_rfl) (by decide) (by decide) h
/-! 28: []uint8 -/
@[simp] theorem u28 : Tryd.prog.underlying 28 = some (TypeDesc.slice 5) := by kernel_rfl
@[simp] theorem z28 : sizeOf? Tryd.prog 28 = some 1 := by kernel_rfl
@[simp] theorem v28 : zeroV Tryd.prog 28 = some [V.nils] := by kernel_rfl
@[simp] theorem g28 (cs : List V) (off : Nat) : getV Tryd.prog 28 cs off = cs[off]? := getV_flat (by kernel_rfl) (by kernel_rfl)
@[simp] theorem f28 {n : Nat} (h : n * 24 < 140737488355328) : fits Tryd.prog 28 n = true := fits_of (sz := 1) (b := 24) (by kernel_rfl) (by decide) (by decide) h
/-! 31: api.Errno = stoa/api.Errno -/
@[simp] theorem u31 : Tryd.prog.underlying 31 = some (TypeDesc.int IntKind.i64) := by kernel_rfl
@[simp] theorem z31 : sizeOf? Tryd.prog 31 = some 1 := by kernel_rfl
@[simp] theorem v31 : zeroV Tryd.prog 31 = some [V.int IntKind.i64 0] := by kernel_rfl
@[simp] theorem g31 (cs : List V) (off : Nat) : getV Tryd.prog 31 cs off = cs[off]? := getV_flat (by kernel_rfl) (by kernel_rfl)
@[simp] theorem f31 {n : Nat} (h : n * 8 < 140737488355328) : fits Tryd.prog 31 n = true := fits_of (sz := 1) (b := 8) (by kernel_rfl) (by decide) (by decide) h
/-! 43: [][]uint8 -/
@[simp] theorem u43 : Tryd.prog.underlying 43 = some (TypeDesc.slice 28) := by kernel_rfl
@[simp] theorem z43 : sizeOf? Tryd.prog 43 = some 1 := by kernel_rfl
@[simp] theorem v43 : zeroV Tryd.prog 43 = some [V.nils] := by kernel_rfl
@[simp] theorem g43 (cs : List V) (off : Nat) : getV Tryd.prog 43 cs off = cs[off]? := getV_flat (by kernel_rfl) (by kernel_rfl)
@[simp] theorem f43 {n : Nat} (h : n * 24 < 140737488355328) : fits Tryd.prog 43 n = true := fits_of (sz := 1) (b := 24) (by kernel_rfl) (by decide) (by decide) h
/-! 62: struct ( Null bool; Int int64; B []uint8 ) -/
@[simp] theorem u62 : Tryd.prog.underlying 62 = some (TypeDesc.struct #[{ name := "Null", type := 4, offset := 0, embedded := false, tag := "", pkgPath := "", byteOffset := 0 }, { name := "Int", type := 2, offset := 1, embedded := false, tag := "", pkgPath := "", byteOffset := 8 }, { name := "B", type := 28, offset := 2, embedded := false, tag := "", pkgPath := "", byteOffset := 16 }]) := by kernel_rfl
@[simp] theorem z62 : sizeOf? Tryd.prog 62 = some 3 := by kernel_rfl
@[simp] theorem v62 : zeroV Tryd.prog 62 = some [V.bool false, V.int IntKind.i64 0, V.nils] := by kernel_rfl
@[simp] theorem g62 (cs : List V) (off : Nat) : getV Tryd.prog 62 cs off = if off + 3 ≤ cs.length then some (.agg ((cs.drop off).take 3)) else none := getV_agg (by kernel_rfl) (by kernel_rfl) (by kernel_rfl)
@[simp] theorem f62 {n : Nat} (h : n * 40 < 140737488355328) : fits Tryd.prog 62 n = true := fits_of (sz := 3) (b := 40) (by kernel_rfl) (by decide) (by decide) h
@[simp] theorem s62 : sized Tryd.prog 62 = true := by kernel_rfl
@[simp] theorem p62_0 : placeOf Tryd.prog 62 0 = some (0, 1) := by kernel_rfl
@[simp] theorem p62_1 : placeOf Tryd.prog 62 1 = some (1, 1) := by kernel_rfl
@[simp] theorem p62_2 : placeOf Tryd.prog 62 2 = some (2, 1) := by kernel_rfl
/-! 63: api.Cell = stoa/api.Cell -/
@[simp] theorem u63 : Tryd.prog.underlying 63 = some (TypeDesc.struct #[{ name := "Null", type := 4, offset := 0, embedded := false, tag := "", pkgPath := "", byteOffset := 0 }, { name := "Int", type := 2, offset := 1, embedded := false, tag := "", pkgPath := "", byteOffset := 8 }, { name := "B", type := 28, offset := 2, embedded := false, tag := "", pkgPath := "", byteOffset := 16 }]) := by kernel_rfl
@[simp] theorem z63 : sizeOf? Tryd.prog 63 = some 3 := by kernel_rfl
@[simp] theorem v63 : zeroV Tryd.prog 63 = some [V.bool false, V.int IntKind.i64 0, V.nils] := by kernel_rfl
@[simp] theorem g63 (cs : List V) (off : Nat) : getV Tryd.prog 63 cs off = if off + 3 ≤ cs.length then some (.agg ((cs.drop off).take 3)) else none := getV_agg (by kernel_rfl) (by kernel_rfl) (by kernel_rfl)
@[simp] theorem f63 {n : Nat} (h : n * 40 < 140737488355328) : fits Tryd.prog 63 n = true := fits_of (sz := 3) (b := 40) (by kernel_rfl) (by decide) (by decide) h
@[simp] theorem s63 : sized Tryd.prog 63 = true := by kernel_rfl
@[simp] theorem p63_0 : placeOf Tryd.prog 63 0 = some (0, 1) := by kernel_rfl
@[simp] theorem p63_1 : placeOf Tryd.prog 63 1 = some (1, 1) := by kernel_rfl
@[simp] theorem p63_2 : placeOf Tryd.prog 63 2 = some (2, 1) := by kernel_rfl
/-! 67: struct ( Name string; Kind int; Null bool ) -/
@[simp] theorem u67 : Tryd.prog.underlying 67 = some (TypeDesc.struct #[{ name := "Name", type := 9, offset := 0, embedded := false, tag := "", pkgPath := "", byteOffset := 0 }, { name := "Kind", type := 3, offset := 1, embedded := false, tag := "", pkgPath := "", byteOffset := 16 }, { name := "Null", type := 4, offset := 2, embedded := false, tag := "", pkgPath := "", byteOffset := 24 }]) := by kernel_rfl
@[simp] theorem z67 : sizeOf? Tryd.prog 67 = some 3 := by kernel_rfl
@[simp] theorem v67 : zeroV Tryd.prog 67 = some [V.str { data := #[] }, V.int IntKind.i64 0, V.bool false] := by kernel_rfl
@[simp] theorem g67 (cs : List V) (off : Nat) : getV Tryd.prog 67 cs off = if off + 3 ≤ cs.length then some (.agg ((cs.drop off).take 3)) else none := getV_agg (by kernel_rfl) (by kernel_rfl) (by kernel_rfl)
@[simp] theorem f67 {n : Nat} (h : n * 32 < 140737488355328) : fits Tryd.prog 67 n = true := fits_of (sz := 3) (b := 32) (by kernel_rfl) (by decide) (by decide) h
@[simp] theorem e67 : flat Tryd.prog 67 = some [TypeDesc.string, TypeDesc.int IntKind.i64, TypeDesc.bool] := by kernel_rfl
@[simp] theorem s67 : sized Tryd.prog 67 = true := by kernel_rfl
@[simp] theorem p67_0 : placeOf Tryd.prog 67 0 = some (0, 1) := by kernel_rfl
@[simp] theorem p67_1 : placeOf Tryd.prog 67 1 = some (1, 1) := by kernel_rfl
@[simp] theorem p67_2 : placeOf Tryd.prog 67 2 = some (2, 1) := by kernel_rfl
/-! 68: api.Column = stoa/api.Column -/
@[simp] theorem u68 : Tryd.prog.underlying 68 = some (TypeDesc.struct #[{ name := "Name", type := 9, offset := 0, embedded := false, tag := "", pkgPath := "", byteOffset := 0 }, { name := "Kind", type := 3, offset := 1, embedded := false, tag := "", pkgPath := "", byteOffset := 16 }, { name := "Null", type := 4, offset := 2, embedded := false, tag := "", pkgPath := "", byteOffset := 24 }]) := by kernel_rfl
@[simp] theorem z68 : sizeOf? Tryd.prog 68 = some 3 := by kernel_rfl
@[simp] theorem v68 : zeroV Tryd.prog 68 = some [V.str { data := #[] }, V.int IntKind.i64 0, V.bool false] := by kernel_rfl
@[simp] theorem g68 (cs : List V) (off : Nat) : getV Tryd.prog 68 cs off = if off + 3 ≤ cs.length then some (.agg ((cs.drop off).take 3)) else none := getV_agg (by kernel_rfl) (by kernel_rfl) (by kernel_rfl)
@[simp] theorem f68 {n : Nat} (h : n * 32 < 140737488355328) : fits Tryd.prog 68 n = true := fits_of (sz := 3) (b := 32) (by kernel_rfl) (by decide) (by decide) h
@[simp] theorem e68 : flat Tryd.prog 68 = some [TypeDesc.string, TypeDesc.int IntKind.i64, TypeDesc.bool] := by kernel_rfl
@[simp] theorem s68 : sized Tryd.prog 68 = true := by kernel_rfl
@[simp] theorem p68_0 : placeOf Tryd.prog 68 0 = some (0, 1) := by kernel_rfl
@[simp] theorem p68_1 : placeOf Tryd.prog 68 1 = some (1, 1) := by kernel_rfl
@[simp] theorem p68_2 : placeOf Tryd.prog 68 2 = some (2, 1) := by kernel_rfl
/-! 83: uint64 -/
@[simp] theorem u83 : Tryd.prog.underlying 83 = some (TypeDesc.int IntKind.u64) := by kernel_rfl
@[simp] theorem z83 : sizeOf? Tryd.prog 83 = some 1 := by kernel_rfl
@[simp] theorem v83 : zeroV Tryd.prog 83 = some [V.int IntKind.u64 0] := by kernel_rfl
@[simp] theorem g83 (cs : List V) (off : Nat) : getV Tryd.prog 83 cs off = cs[off]? := getV_flat (by kernel_rfl) (by kernel_rfl)
@[simp] theorem f83 {n : Nat} (h : n * 8 < 140737488355328) : fits Tryd.prog 83 n = true := fits_of (sz := 1) (b := 8) (by kernel_rfl) (by decide) (by decide) h
/-! 86: map[string]bool -/
@[simp] theorem u86 : Tryd.prog.underlying 86 = some (TypeDesc.map 9 4) := by kernel_rfl
@[simp] theorem z86 : sizeOf? Tryd.prog 86 = some 1 := by kernel_rfl
@[simp] theorem v86 : zeroV Tryd.prog 86 = some [V.nilm] := by kernel_rfl
@[simp] theorem g86 (cs : List V) (off : Nat) : getV Tryd.prog 86 cs off = cs[off]? := getV_flat (by kernel_rfl) (by kernel_rfl)
@[simp] theorem f86 {n : Nat} (h : n * 8 < 140737488355328) : fits Tryd.prog 86 n = true := fits_of (sz := 1) (b := 8) (by kernel_rfl) (by decide) (by decide) h
/-! 95: uint16 -/
@[simp] theorem u95 : Tryd.prog.underlying 95 = some (TypeDesc.int IntKind.u16) := by kernel_rfl
@[simp] theorem z95 : sizeOf? Tryd.prog 95 = some 1 := by kernel_rfl
@[simp] theorem v95 : zeroV Tryd.prog 95 = some [V.int IntKind.u16 0] := by kernel_rfl
@[simp] theorem g95 (cs : List V) (off : Nat) : getV Tryd.prog 95 cs off = cs[off]? := getV_flat (by kernel_rfl) (by kernel_rfl)
@[simp] theorem f95 {n : Nat} (h : n * 2 < 140737488355328) : fits Tryd.prog 95 n = true := fits_of (sz := 1) (b := 2) (by kernel_rfl) (by decide) (by decide) h
/-! 96: uint -/
@[simp] theorem u96 : Tryd.prog.underlying 96 = some (TypeDesc.int IntKind.u64) := by kernel_rfl
@[simp] theorem z96 : sizeOf? Tryd.prog 96 = some 1 := by kernel_rfl
@[simp] theorem v96 : zeroV Tryd.prog 96 = some [V.int IntKind.u64 0] := by kernel_rfl
@[simp] theorem g96 (cs : List V) (off : Nat) : getV Tryd.prog 96 cs off = cs[off]? := getV_flat (by kernel_rfl) (by kernel_rfl)
@[simp] theorem f96 {n : Nat} (h : n * 8 < 140737488355328) : fits Tryd.prog 96 n = true := fits_of (sz := 1) (b := 8) (by kernel_rfl) (by decide) (by decide) h
/-! 103: [256]bool -/
@[simp] theorem u103 : Tryd.prog.underlying 103 = some (TypeDesc.array 256 4) := by kernel_rfl
@[simp] theorem z103 : sizeOf? Tryd.prog 103 = some 256 := by kernel_rfl
@[simp] theorem g103 (cs : List V) (off : Nat) : getV Tryd.prog 103 cs off = if off + 256 ≤ cs.length then some (.agg ((cs.drop off).take 256)) else none := getV_agg (by kernel_rfl) (by kernel_rfl) (by kernel_rfl)
@[simp] theorem f103 {n : Nat} (h : n * 256 < 140737488355328) : fits Tryd.prog 103 n = true := fits_of (sz := 256) (b := 256) (by kernel_rfl) (by decide) (by decide) h
@[simp] theorem s103 : sized Tryd.prog 103 = true := by kernel_rfl
@[simp] theorem p103_0 : placeOf Tryd.prog 103 0 = some (0, 1) := by kernel_rfl
@[simp] theorem p103_1 : placeOf Tryd.prog 103 1 = some (1, 1) := by kernel_rfl
@[simp] theorem p103_2 : placeOf Tryd.prog 103 2 = some (2, 1) := by kernel_rfl
@[simp] theorem p103_3 : placeOf Tryd.prog 103 3 = some (3, 1) := by kernel_rfl
@[simp] theorem p103_4 : placeOf Tryd.prog 103 4 = some (4, 1) := by kernel_rfl
@[simp] theorem p103_5 : placeOf Tryd.prog 103 5 = some (5, 1) := by kernel_rfl
@[simp] theorem p103_6 : placeOf Tryd.prog 103 6 = some (6, 1) := by kernel_rfl
@[simp] theorem p103_7 : placeOf Tryd.prog 103 7 = some (7, 1) := by kernel_rfl
@[simp] theorem p103_8 : placeOf Tryd.prog 103 8 = some (8, 1) := by kernel_rfl
@[simp] theorem p103_9 : placeOf Tryd.prog 103 9 = some (9, 1) := by kernel_rfl
@[simp] theorem p103_10 : placeOf Tryd.prog 103 10 = some (10, 1) := by kernel_rfl
@[simp] theorem p103_11 : placeOf Tryd.prog 103 11 = some (11, 1) := by kernel_rfl
@[simp] theorem p103_12 : placeOf Tryd.prog 103 12 = some (12, 1) := by kernel_rfl
@[simp] theorem p103_13 : placeOf Tryd.prog 103 13 = some (13, 1) := by kernel_rfl
@[simp] theorem p103_14 : placeOf Tryd.prog 103 14 = some (14, 1) := by kernel_rfl
@[simp] theorem p103_15 : placeOf Tryd.prog 103 15 = some (15, 1) := by kernel_rfl
@[simp] theorem p103_16 : placeOf Tryd.prog 103 16 = some (16, 1) := by kernel_rfl
@[simp] theorem p103_17 : placeOf Tryd.prog 103 17 = some (17, 1) := by kernel_rfl
@[simp] theorem p103_18 : placeOf Tryd.prog 103 18 = some (18, 1) := by kernel_rfl
@[simp] theorem p103_19 : placeOf Tryd.prog 103 19 = some (19, 1) := by kernel_rfl
@[simp] theorem p103_20 : placeOf Tryd.prog 103 20 = some (20, 1) := by kernel_rfl
@[simp] theorem p103_21 : placeOf Tryd.prog 103 21 = some (21, 1) := by kernel_rfl
@[simp] theorem p103_22 : placeOf Tryd.prog 103 22 = some (22, 1) := by kernel_rfl
@[simp] theorem p103_23 : placeOf Tryd.prog 103 23 = some (23, 1) := by kernel_rfl
@[simp] theorem p103_24 : placeOf Tryd.prog 103 24 = some (24, 1) := by kernel_rfl
@[simp] theorem p103_25 : placeOf Tryd.prog 103 25 = some (25, 1) := by kernel_rfl
@[simp] theorem p103_26 : placeOf Tryd.prog 103 26 = some (26, 1) := by kernel_rfl
@[simp] theorem p103_27 : placeOf Tryd.prog 103 27 = some (27, 1) := by kernel_rfl
@[simp] theorem p103_28 : placeOf Tryd.prog 103 28 = some (28, 1) := by kernel_rfl
@[simp] theorem p103_29 : placeOf Tryd.prog 103 29 = some (29, 1) := by kernel_rfl
@[simp] theorem p103_30 : placeOf Tryd.prog 103 30 = some (30, 1) := by kernel_rfl
@[simp] theorem p103_31 : placeOf Tryd.prog 103 31 = some (31, 1) := by kernel_rfl
@[simp] theorem p103_32 : placeOf Tryd.prog 103 32 = some (32, 1) := by kernel_rfl
@[simp] theorem p103_33 : placeOf Tryd.prog 103 33 = some (33, 1) := by kernel_rfl
@[simp] theorem p103_34 : placeOf Tryd.prog 103 34 = some (34, 1) := by kernel_rfl
@[simp] theorem p103_35 : placeOf Tryd.prog 103 35 = some (35, 1) := by kernel_rfl
@[simp] theorem p103_36 : placeOf Tryd.prog 103 36 = some (36, 1) := by kernel_rfl
@[simp] theorem p103_37 : placeOf Tryd.prog 103 37 = some (37, 1) := by kernel_rfl
@[simp] theorem p103_38 : placeOf Tryd.prog 103 38 = some (38, 1) := by kernel_rfl
@[simp] theorem p103_39 : placeOf Tryd.prog 103 39 = some (39, 1) := by kernel_rfl
/-! 104: strings.asciiSet -/
@[simp] theorem u104 : Tryd.prog.underlying 104 = some (TypeDesc.array 256 4) := by kernel_rfl
@[simp] theorem z104 : sizeOf? Tryd.prog 104 = some 256 := by kernel_rfl
@[simp] theorem g104 (cs : List V) (off : Nat) : getV Tryd.prog 104 cs off = if off + 256 ≤ cs.length then some (.agg ((cs.drop off).take 256)) else none := getV_agg (by kernel_rfl) (by kernel_rfl) (by kernel_rfl)
@[simp] theorem f104 {n : Nat} (h : n * 256 < 140737488355328) : fits Tryd.prog 104 n = true := fits_of (sz := 256) (b := 256) (by kernel_rfl) (by decide) (by decide) h
@[simp] theorem s104 : sized Tryd.prog 104 = true := by kernel_rfl
@[simp] theorem p104_0 : placeOf Tryd.prog 104 0 = some (0, 1) := by kernel_rfl
@[simp] theorem p104_1 : placeOf Tryd.prog 104 1 = some (1, 1) := by kernel_rfl
@[simp] theorem p104_2 : placeOf Tryd.prog 104 2 = some (2, 1) := by kernel_rfl
@[simp] theorem p104_3 : placeOf Tryd.prog 104 3 = some (3, 1) := by kernel_rfl
@[simp] theorem p104_4 : placeOf Tryd.prog 104 4 = some (4, 1) := by kernel_rfl
@[simp] theorem p104_5 : placeOf Tryd.prog 104 5 = some (5, 1) := by kernel_rfl
@[simp] theorem p104_6 : placeOf Tryd.prog 104 6 = some (6, 1) := by kernel_rfl
@[simp] theorem p104_7 : placeOf Tryd.prog 104 7 = some (7, 1) := by kernel_rfl
@[simp] theorem p104_8 : placeOf Tryd.prog 104 8 = some (8, 1) := by kernel_rfl
@[simp] theorem p104_9 : placeOf Tryd.prog 104 9 = some (9, 1) := by kernel_rfl
@[simp] theorem p104_10 : placeOf Tryd.prog 104 10 = some (10, 1) := by kernel_rfl
@[simp] theorem p104_11 : placeOf Tryd.prog 104 11 = some (11, 1) := by kernel_rfl
@[simp] theorem p104_12 : placeOf Tryd.prog 104 12 = some (12, 1) := by kernel_rfl
@[simp] theorem p104_13 : placeOf Tryd.prog 104 13 = some (13, 1) := by kernel_rfl
@[simp] theorem p104_14 : placeOf Tryd.prog 104 14 = some (14, 1) := by kernel_rfl
@[simp] theorem p104_15 : placeOf Tryd.prog 104 15 = some (15, 1) := by kernel_rfl
@[simp] theorem p104_16 : placeOf Tryd.prog 104 16 = some (16, 1) := by kernel_rfl
@[simp] theorem p104_17 : placeOf Tryd.prog 104 17 = some (17, 1) := by kernel_rfl
@[simp] theorem p104_18 : placeOf Tryd.prog 104 18 = some (18, 1) := by kernel_rfl
@[simp] theorem p104_19 : placeOf Tryd.prog 104 19 = some (19, 1) := by kernel_rfl
@[simp] theorem p104_20 : placeOf Tryd.prog 104 20 = some (20, 1) := by kernel_rfl
@[simp] theorem p104_21 : placeOf Tryd.prog 104 21 = some (21, 1) := by kernel_rfl
@[simp] theorem p104_22 : placeOf Tryd.prog 104 22 = some (22, 1) := by kernel_rfl
@[simp] theorem p104_23 : placeOf Tryd.prog 104 23 = some (23, 1) := by kernel_rfl
@[simp] theorem p104_24 : placeOf Tryd.prog 104 24 = some (24, 1) := by kernel_rfl
@[simp] theorem p104_25 : placeOf Tryd.prog 104 25 = some (25, 1) := by kernel_rfl
@[simp] theorem p104_26 : placeOf Tryd.prog 104 26 = some (26, 1) := by kernel_rfl
@[simp] theorem p104_27 : placeOf Tryd.prog 104 27 = some (27, 1) := by kernel_rfl
@[simp] theorem p104_28 : placeOf Tryd.prog 104 28 = some (28, 1) := by kernel_rfl
@[simp] theorem p104_29 : placeOf Tryd.prog 104 29 = some (29, 1) := by kernel_rfl
@[simp] theorem p104_30 : placeOf Tryd.prog 104 30 = some (30, 1) := by kernel_rfl
@[simp] theorem p104_31 : placeOf Tryd.prog 104 31 = some (31, 1) := by kernel_rfl
@[simp] theorem p104_32 : placeOf Tryd.prog 104 32 = some (32, 1) := by kernel_rfl
@[simp] theorem p104_33 : placeOf Tryd.prog 104 33 = some (33, 1) := by kernel_rfl
@[simp] theorem p104_34 : placeOf Tryd.prog 104 34 = some (34, 1) := by kernel_rfl
@[simp] theorem p104_35 : placeOf Tryd.prog 104 35 = some (35, 1) := by kernel_rfl
@[simp] theorem p104_36 : placeOf Tryd.prog 104 36 = some (36, 1) := by kernel_rfl
@[simp] theorem p104_37 : placeOf Tryd.prog 104 37 = some (37, 1) := by kernel_rfl
@[simp] theorem p104_38 : placeOf Tryd.prog 104 38 = some (38, 1) := by kernel_rfl
@[simp] theorem p104_39 : placeOf Tryd.prog 104 39 = some (39, 1) := by kernel_rfl
/-! 108: *strings.asciiSet -/
@[simp] theorem u108 : Tryd.prog.underlying 108 = some (TypeDesc.pointer 104) := by kernel_rfl
@[simp] theorem z108 : sizeOf? Tryd.prog 108 = some 1 := by kernel_rfl
@[simp] theorem v108 : zeroV Tryd.prog 108 = some [V.nilp] := by kernel_rfl
@[simp] theorem g108 (cs : List V) (off : Nat) : getV Tryd.prog 108 cs off = cs[off]? := getV_flat (by kernel_rfl) (by kernel_rfl)
@[simp] theorem f108 {n : Nat} (h : n * 8 < 140737488355328) : fits Tryd.prog 108 n = true := fits_of (sz := 1) (b := 8) (by kernel_rfl) (by decide) (by decide) h
/-! 109: int8 -/
@[simp] theorem u109 : Tryd.prog.underlying 109 = some (TypeDesc.int IntKind.i8) := by kernel_rfl
@[simp] theorem z109 : sizeOf? Tryd.prog 109 = some 1 := by kernel_rfl
@[simp] theorem v109 : zeroV Tryd.prog 109 = some [V.int IntKind.i8 0] := by kernel_rfl
@[simp] theorem g109 (cs : List V) (off : Nat) : getV Tryd.prog 109 cs off = cs[off]? := getV_flat (by kernel_rfl) (by kernel_rfl)
@[simp] theorem f109 {n : Nat} (h : n * 1 < 140737488355328) : fits Tryd.prog 109 n = true := fits_of (sz := 1) (b := 1) (by kernel_rfl) (by decide) (by decide) h
/-! 110: int16 -/
@[simp] theorem u110 : Tryd.prog.underlying 110 = some (TypeDesc.int IntKind.i16) := by kernel_rfl
@[simp] theorem z110 : sizeOf? Tryd.prog 110 = some 1 := by kernel_rfl
@[simp] theorem v110 : zeroV Tryd.prog 110 = some [V.int IntKind.i16 0] := by kernel_rfl
@[simp] theorem g110 (cs : List V) (off : Nat) : getV Tryd.prog 110 cs off = cs[off]? := getV_flat (by kernel_rfl) (by kernel_rfl)
@[simp] theorem f110 {n : Nat} (h : n * 2 < 140737488355328) : fits Tryd.prog 110 n = true := fits_of (sz := 1) (b := 2) (by kernel_rfl) (by decide) (by decide) h
/-! 119: uint32 -/
@[simp] theorem u119 : Tryd.prog.underlying 119 = some (TypeDesc.int IntKind.u32) := by kernel_rfl
@[simp] theorem z119 : sizeOf? Tryd.prog 119 = some 1 := by kernel_rfl
@[simp] theorem v119 : zeroV Tryd.prog 119 = some [V.int IntKind.u32 0] := by kernel_rfl
@[simp] theorem g119 (cs : List V) (off : Nat) : getV Tryd.prog 119 cs off = cs[off]? := getV_flat (by kernel_rfl) (by kernel_rfl)
@[simp] theorem f119 {n : Nat} (h : n * 4 < 140737488355328) : fits Tryd.prog 119 n = true := fits_of (sz := 1) (b := 4) (by kernel_rfl) (by decide) (by decide) h
/-! 122: [256]uint8 -/
@[simp] theorem u122 : Tryd.prog.underlying 122 = some (TypeDesc.array 256 5) := by kernel_rfl
@[simp] theorem z122 : sizeOf? Tryd.prog 122 = some 256 := by kernel_rfl
@[simp] theorem g122 (cs : List V) (off : Nat) : getV Tryd.prog 122 cs off = if off + 256 ≤ cs.length then some (.agg ((cs.drop off).take 256)) else none := getV_agg (by kernel_rfl) (by kernel_rfl) (by kernel_rfl)
@[simp] theorem f122 {n : Nat} (h : n * 256 < 140737488355328) : fits Tryd.prog 122 n = true := fits_of (sz := 256) (b := 256) (by kernel_rfl) (by decide) (by decide) h
@[simp] theorem e122 : flat Tryd.prog 122 = some (List.replicate 256 (.int IntKind.u8)) := by kernel_rfl
@[simp] theorem s122 : sized Tryd.prog 122 = true := by kernel_rfl
@[simp] theorem p122_0 : placeOf Tryd.prog 122 0 = some (0, 1) := by kernel_rfl
@[simp] theorem p122_1 : placeOf Tryd.prog 122 1 = some (1, 1) := by kernel_rfl
@[simp] theorem p122_2 : placeOf Tryd.prog 122 2 = some (2, 1) := by kernel_rfl
@[simp] theorem p122_3 : placeOf Tryd.prog 122 3 = some (3, 1) := by kernel_rfl
@[simp] theorem p122_4 : placeOf Tryd.prog 122 4 = some (4, 1) := by kernel_rfl
@[simp] theorem p122_5 : placeOf Tryd.prog 122 5 = some (5, 1) := by kernel_rfl
@[simp] theorem p122_6 : placeOf Tryd.prog 122 6 = some (6, 1) := by kernel_rfl
@[simp] theorem p122_7 : placeOf Tryd.prog 122 7 = some (7, 1) := by kernel_rfl
@[simp] theorem p122_8 : placeOf Tryd.prog 122 8 = some (8, 1) := by kernel_rfl
@[simp] theorem p122_9 : placeOf Tryd.prog 122 9 = some (9, 1) := by kernel_rfl
@[simp] theorem p122_10 : placeOf Tryd.prog 122 10 = some (10, 1) := by kernel_rfl
@[simp] theorem p122_11 : placeOf Tryd.prog 122 11 = some (11, 1) := by kernel_rfl
@[simp] theorem p122_12 : placeOf Tryd.prog 122 12 = some (12, 1) := by kernel_rfl
@[simp] theorem p122_13 : placeOf Tryd.prog 122 13 = some (13, 1) := by kernel_rfl
@[simp] theorem p122_14 : placeOf Tryd.prog 122 14 = some (14, 1) := by kernel_rfl
@[simp] theorem p122_15 : placeOf Tryd.prog 122 15 = some (15, 1) := by kernel_rfl
@[simp] theorem p122_16 : placeOf Tryd.prog 122 16 = some (16, 1) := by kernel_rfl
@[simp] theorem p122_17 : placeOf Tryd.prog 122 17 = some (17, 1) := by kernel_rfl
@[simp] theorem p122_18 : placeOf Tryd.prog 122 18 = some (18, 1) := by kernel_rfl
@[simp] theorem p122_19 : placeOf Tryd.prog 122 19 = some (19, 1) := by kernel_rfl
@[simp] theorem p122_20 : placeOf Tryd.prog 122 20 = some (20, 1) := by kernel_rfl
@[simp] theorem p122_21 : placeOf Tryd.prog 122 21 = some (21, 1) := by kernel_rfl
@[simp] theorem p122_22 : placeOf Tryd.prog 122 22 = some (22, 1) := by kernel_rfl
@[simp] theorem p122_23 : placeOf Tryd.prog 122 23 = some (23, 1) := by kernel_rfl
@[simp] theorem p122_24 : placeOf Tryd.prog 122 24 = some (24, 1) := by kernel_rfl
@[simp] theorem p122_25 : placeOf Tryd.prog 122 25 = some (25, 1) := by kernel_rfl
@[simp] theorem p122_26 : placeOf Tryd.prog 122 26 = some (26, 1) := by kernel_rfl
@[simp] theorem p122_27 : placeOf Tryd.prog 122 27 = some (27, 1) := by kernel_rfl
@[simp] theorem p122_28 : placeOf Tryd.prog 122 28 = some (28, 1) := by kernel_rfl
@[simp] theorem p122_29 : placeOf Tryd.prog 122 29 = some (29, 1) := by kernel_rfl
@[simp] theorem p122_30 : placeOf Tryd.prog 122 30 = some (30, 1) := by kernel_rfl
@[simp] theorem p122_31 : placeOf Tryd.prog 122 31 = some (31, 1) := by kernel_rfl
@[simp] theorem p122_32 : placeOf Tryd.prog 122 32 = some (32, 1) := by kernel_rfl
@[simp] theorem p122_33 : placeOf Tryd.prog 122 33 = some (33, 1) := by kernel_rfl
@[simp] theorem p122_34 : placeOf Tryd.prog 122 34 = some (34, 1) := by kernel_rfl
@[simp] theorem p122_35 : placeOf Tryd.prog 122 35 = some (35, 1) := by kernel_rfl
@[simp] theorem p122_36 : placeOf Tryd.prog 122 36 = some (36, 1) := by kernel_rfl
@[simp] theorem p122_37 : placeOf Tryd.prog 122 37 = some (37, 1) := by kernel_rfl
@[simp] theorem p122_38 : placeOf Tryd.prog 122 38 = some (38, 1) := by kernel_rfl
@[simp] theorem p122_39 : placeOf Tryd.prog 122 39 = some (39, 1) := by kernel_rfl
/-! 123: struct ( lo uint8; hi uint8 ) -/
@[simp] theorem u123 : Tryd.prog.underlying 123 = some (TypeDesc.struct #[{ name := "lo", type := 5, offset := 0, embedded := false, tag := "", pkgPath := "unicode/utf8", byteOffset := 0 }, { name := "hi", type := 5, offset := 1, embedded := false, tag := "", pkgPath := "unicode/utf8", byteOffset := 1 }]) := by kernel_rfl
@[simp] theorem z123 : sizeOf? Tryd.prog 123 = some 2 := by kernel_rfl
@[simp] theorem v123 : zeroV Tryd.prog 123 = some [V.int IntKind.u8 0, V.int IntKind.u8 0] := by kernel_rfl
@[simp] theorem g123 (cs : List V) (off : Nat) : getV Tryd.prog 123 cs off = if off + 2 ≤ cs.length then some (.agg ((cs.drop off).take 2)) else none := getV_agg (by kernel_rfl) (by kernel_rfl) (by kernel_rfl)
@[simp] theorem f123 {n : Nat} (h : n * 2 < 140737488355328) : fits Tryd.prog 123 n = true := fits_of (sz := 2) (b := 2) (by kernel_rfl) (by decide) (by decide) h
@[simp] theorem e123 : flat Tryd.prog 123 = some [TypeDesc.int IntKind.u8, TypeDesc.int IntKind.u8] := by kernel_rfl
@[simp] theorem s123 : sized Tryd.prog 123 = true := by kernel_rfl
@[simp] theorem p123_0 : placeOf Tryd.prog 123 0 = some (0, 1) := by kernel_rfl
@[simp] theorem p123_1 : placeOf Tryd.prog 123 1 = some (1, 1) := by kernel_rfl
/-! 124: utf8.acceptRange = unicode/utf8.acceptRange -/
@[simp] theorem u124 : Tryd.prog.underlying 124 = some (TypeDesc.struct #[{ name := "lo", type := 5, offset := 0, embedded := false, tag := "", pkgPath := "unicode/utf8", byteOffset := 0 }, { name := "hi", type := 5, offset := 1, embedded := false, tag := "", pkgPath := "unicode/utf8", byteOffset := 1 }]) := by kernel_rfl
@[simp] theorem z124 : sizeOf? Tryd.prog 124 = some 2 := by kernel_rfl
@[simp] theorem v124 : zeroV Tryd.prog 124 = some [V.int IntKind.u8 0, V.int IntKind.u8 0] := by kernel_rfl
@[simp] theorem g124 (cs : List V) (off : Nat) : getV Tryd.prog 124 cs off = if off + 2 ≤ cs.length then some (.agg ((cs.drop off).take 2)) else none := getV_agg (by kernel_rfl) (by kernel_rfl) (by kernel_rfl)
@[simp] theorem f124 {n : Nat} (h : n * 2 < 140737488355328) : fits Tryd.prog 124 n = true := fits_of (sz := 2) (b := 2) (by kernel_rfl) (by decide) (by decide) h
@[simp] theorem e124 : flat Tryd.prog 124 = some [TypeDesc.int IntKind.u8, TypeDesc.int IntKind.u8] := by kernel_rfl
@[simp] theorem s124 : sized Tryd.prog 124 = true := by kernel_rfl
@[simp] theorem p124_0 : placeOf Tryd.prog 124 0 = some (0, 1) := by kernel_rfl
@[simp] theorem p124_1 : placeOf Tryd.prog 124 1 = some (1, 1) := by kernel_rfl
/-! 125: [16]utf8.acceptRange -/
@[simp] theorem u125 : Tryd.prog.underlying 125 = some (TypeDesc.array 16 124) := by kernel_rfl
@[simp] theorem z125 : sizeOf? Tryd.prog 125 = some 32 := by kernel_rfl
@[simp] theorem v125 : zeroV Tryd.prog 125 = some [V.int IntKind.u8 0, V.int IntKind.u8 0, V.int IntKind.u8 0, V.int IntKind.u8 0, V.int IntKind.u8 0, V.int IntKind.u8 0, V.int IntKind.u8 0, V.int IntKind.u8 0, V.int IntKind.u8 0, V.int IntKind.u8 0, V.int IntKind.u8 0, V.int IntKind.u8 0, V.int IntKind.u8 0, V.int IntKind.u8 0, V.int IntKind.u8 0, V.int IntKind.u8 0, V.int IntKind.u8 0, V.int IntKind.u8 0, V.int IntKind.u8 0, V.int IntKind.u8 0, V.int IntKind.u8 0, V.int IntKind.u8 0, V.int IntKind.u8 0, V.int IntKind.u8 0, V.int IntKind.u8 0, V.int IntKind.u8 0, V.int IntKind.u8 0, V.int IntKind.u8 0, V.int IntKind.u8 0, V.int IntKind.u8 0, V.int IntKind.u8 0, V.int IntKind.u8 0] := by kernel_rfl
@[simp] theorem g125 (cs : List V) (off : Nat) : getV Tryd.prog 125 cs off = if off + 32 ≤ cs.length then some (.agg ((cs.drop off).take 32)) else none := getV_agg (by kernel_rfl) (by kernel_rfl) (by kernel_rfl)
@[simp] theorem f125 {n : Nat} (h : n * 32 < 140737488355328) : fits Tryd.prog 125 n = true := fits_of (sz := 32) (b := 32) (by kernel_rfl) (by decide) (by decide) h
@[simp] theorem s125 : sized Tryd.prog 125 = true := by kernel_rfl
@[simp] theorem p125_0 : placeOf Tryd.prog 125 0 = some (0, 2) := by kernel_rfl
@[simp] theorem p125_1 : placeOf Tryd.prog 125 1 = some (2, 2) := by kernel_rfl
@[simp] theorem p125_2 : placeOf Tryd.prog 125 2 = some (4, 2) := by kernel_rfl
@[simp] theorem p125_3 : placeOf Tryd.prog 125 3 = some (6, 2) := by kernel_rfl
@[simp] theorem p125_4 : placeOf Tryd.prog 125 4 = some (8, 2) := by kernel_rfl
@[simp] theorem p125_5 : placeOf Tryd.prog 125 5 = some (10, 2) := by kernel_rfl
@[simp] theorem p125_6 : placeOf Tryd.prog 125 6 = some (12, 2) := by kernel_rfl
@[simp] theorem p125_7 : placeOf Tryd.prog 125 7 = some (14, 2) := by kernel_rfl
@[simp] theorem p125_8 : placeOf Tryd.prog 125 8 = some (16, 2) := by kernel_rfl
@[simp] theorem p125_9 : placeOf Tryd.prog 125 9 = some (18, 2) := by kernel_rfl
@[simp] theorem p125_10 : placeOf Tryd.prog 125 10 = some (20, 2) := by kernel_rfl
@[simp] theorem p125_11 : placeOf Tryd.prog 125 11 = some (22, 2) := by kernel_rfl
@[simp] theorem p125_12 : placeOf Tryd.prog 125 12 = some (24, 2) := by kernel_rfl
@[simp] theorem p125_13 : placeOf Tryd.prog 125 13 = some (26, 2) := by kernel_rfl
@[simp] theorem p125_14 : placeOf Tryd.prog 125 14 = some (28, 2) := by kernel_rfl
@[simp] theorem p125_15 : placeOf Tryd.prog 125 15 = some (30, 2) := by kernel_rfl
@[simp] theorem p125_16 : placeOf Tryd.prog 125 16 = some (32, 2) := by kernel_rfl
@[simp] theorem p125_17 : placeOf Tryd.prog 125 17 = some (34, 2) := by kernel_rfl
@[simp] theorem p125_18 : placeOf Tryd.prog 125 18 = some (36, 2) := by kernel_rfl
@[simp] theorem p125_19 : placeOf Tryd.prog 125 19 = some (38, 2) := by kernel_rfl
@[simp] theorem p125_20 : placeOf Tryd.prog 125 20 = some (40, 2) := by kernel_rfl
@[simp] theorem p125_21 : placeOf Tryd.prog 125 21 = some (42, 2) := by kernel_rfl
@[simp] theorem p125_22 : placeOf Tryd.prog 125 22 = some (44, 2) := by kernel_rfl
@[simp] theorem p125_23 : placeOf Tryd.prog 125 23 = some (46, 2) := by kernel_rfl
@[simp] theorem p125_24 : placeOf Tryd.prog 125 24 = some (48, 2) := by kernel_rfl
@[simp] theorem p125_25 : placeOf Tryd.prog 125 25 = some (50, 2) := by kernel_rfl
@[simp] theorem p125_26 : placeOf Tryd.prog 125 26 = some (52, 2) := by kernel_rfl
@[simp] theorem p125_27 : placeOf Tryd.prog 125 27 = some (54, 2) := by kernel_rfl
@[simp] theorem p125_28 : placeOf Tryd.prog 125 28 = some (56, 2) := by kernel_rfl
@[simp] theorem p125_29 : placeOf Tryd.prog 125 29 = some (58, 2) := by kernel_rfl
@[simp] theorem p125_30 : placeOf Tryd.prog 125 30 = some (60, 2) := by kernel_rfl
@[simp] theorem p125_31 : placeOf Tryd.prog 125 31 = some (62, 2) := by kernel_rfl
@[simp] theorem p125_32 : placeOf Tryd.prog 125 32 = some (64, 2) := by kernel_rfl
@[simp] theorem p125_33 : placeOf Tryd.prog 125 33 = some (66, 2) := by kernel_rfl
@[simp] theorem p125_34 : placeOf Tryd.prog 125 34 = some (68, 2) := by kernel_rfl
@[simp] theorem p125_35 : placeOf Tryd.prog 125 35 = some (70, 2) := by kernel_rfl
@[simp] theorem p125_36 : placeOf Tryd.prog 125 36 = some (72, 2) := by kernel_rfl
@[simp] theorem p125_37 : placeOf Tryd.prog 125 37 = some (74, 2) := by kernel_rfl
@[simp] theorem p125_38 : placeOf Tryd.prog 125 38 = some (76, 2) := by kernel_rfl
@[simp] theorem p125_39 : placeOf Tryd.prog 125 39 = some (78, 2) := by kernel_rfl
/-! 139: *uint8 -/
@[simp] theorem u139 : Tryd.prog.underlying 139 = some (TypeDesc.pointer 5) := by kernel_rfl
@[simp] theorem z139 : sizeOf? Tryd.prog 139 = some 1 := by kernel_rfl
@[simp] theorem v139 : zeroV Tryd.prog 139 = some [V.nilp] := by kernel_rfl
@[simp] theorem g139 (cs : List V) (off : Nat) : getV Tryd.prog 139 cs off = cs[off]? := getV_flat (by kernel_rfl) (by kernel_rfl)
@[simp] theorem f139 {n : Nat} (h : n * 8 < 140737488355328) : fits Tryd.prog 139 n = true := fits_of (sz := 1) (b := 8) (by kernel_rfl) (by decide) (by decide) h
/-! 144: unsafe.Pointer -/
@[simp] theorem u144 : Tryd.prog.underlying 144 = some TypeDesc.unsafePointer := by kernel_rfl
@[simp] theorem z144 : sizeOf? Tryd.prog 144 = some 1 := by kernel_rfl
@[simp] theorem v144 : zeroV Tryd.prog 144 = some [V.nilp] := by kernel_rfl
@[simp] theorem g144 (cs : List V) (off : Nat) : getV Tryd.prog 144 cs off = cs[off]? := getV_flat (by kernel_rfl) (by kernel_rfl)
@[simp] theorem f144 {n : Nat} (h : n * 8 < 140737488355328) : fits Tryd.prog 144 n = true := fits_of (sz := 1) (b := 8) (by kernel_rfl) (by decide) (by decide) h
end Go.Proofs.YtiaihiccaoibgaaDoor.B
