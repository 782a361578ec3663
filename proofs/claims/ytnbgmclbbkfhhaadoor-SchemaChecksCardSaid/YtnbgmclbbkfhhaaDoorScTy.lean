import Derived.Test.YtnbgmclbbkfhhaaDoorAb24
import Derived.Laws.Closers25b
import Derived.Test.YtnbgmclbbkfhhaaDoorRows
set_option linter.unusedSimpArgs false
set_option linter.unusedVariables false
set_option linter.unusedSectionVars false
/- Facts about the types of this program. (Written by types.py.) -/
set_option maxRecDepth 20000
namespace Go.Proofs.YtnbgmclbbkfhhaaDoor.B
open Go Go.Ab
/-! 2: int64 -/
@[simp] theorem u2 : Tryd.prog.underlying 2 = some (TypeDesc.int IntKind.i64) := by kernel_rfl
@[simp] theorem z2 : sizeOf? Tryd.prog 2 = some 1 := by kernel_rfl
@[simp] theorem v2 : zeroV Tryd.prog 2 = some [V.int IntKind.i64 0] := by kernel_rfl
@[simp] theorem g2 (cs : List V) (off : Nat) : getV Tryd.prog 2 cs off = cs[off]? := getV_flat (by kernel_rfl) (by kernel_rfl)
@[simp] theorem f2 {n : Nat} (h : n * 8 < 140737488355328) : fits Tryd.prog 2 n = true := fits_of (sz := 1) (b := 8) (by kernel_rfl) (by decide) (by decide) h
/-! 3: int -/
@[simp] theorem u3 : Tryd.prog.underlying 3 = some (TypeDesc.int IntKind.i64) := by kernel_rfl
@[simp] theorem z3 : sizeOf? Tryd.prog 3 = some 1 := by kernel_rfl
@[simp] theorem v3 : zeroV Tryd.prog 3 = some [V.int IntKind.i64 0] := by kernel_rfl
@[simp] theorem g3 (cs : List V) (off : Nat) : getV Tryd.prog 3 cs off = cs[off]? := getV_flat (by kernel_rfl) (by kernel_rfl)
@[simp] theorem f3 {n : Nat} (h : n * 8 < 140737488355328) : fits Tryd.prog 3 n = true := fits_of (sz := 1) (b := 8) (by kernel_rfl) (by decide) (by decide) h
/-! 4: bool -/
@[simp] theorem u4 : Tryd.prog.underlying 4 = some TypeDesc.bool := by kernel_rfl
@[simp] theorem z4 : sizeOf? Tryd.prog 4 = some 1 := by kernel_rfl
@[simp] theorem v4 : zeroV Tryd.prog 4 = some [V.bool false] := by kernel_rfl
@[simp] theorem g4 (cs : List V) (off : Nat) : getV Tryd.prog 4 cs off = cs[off]? := getV_flat (by kernel_rfl) (by kernel_rfl)
@[simp] theorem f4 {n : Nat} (h : n * 1 < 140737488355328) : fits Tryd.prog 4 n = true := fits_of (sz := 1) (b := 1) (by kernel_rfl) (by decide) (by decide) h
/-! 5: uint8 -/
@[simp] theorem u5 : Tryd.prog.underlying 5 = some (TypeDesc.int IntKind.u8) := by kernel_rfl
@[simp] theorem z5 : sizeOf? Tryd.prog 5 = some 1 := by kernel_rfl
@[simp] theorem v5 : zeroV Tryd.prog 5 = some [V.int IntKind.u8 0] := by kernel_rfl
@[simp] theorem g5 (cs : List V) (off : Nat) : getV Tryd.prog 5 cs off = cs[off]? := getV_flat (by kernel_rfl) (by kernel_rfl)
@[simp] theorem f5 {n : Nat} (h : n * 1 < 140737488355328) : fits Tryd.prog 5 n = true := fits_of (sz := 1) (b := 1) (by kernel_rfl) (by decide) (by decide) h
/-! 9: string -/
@[simp] theorem u9 : Tryd.prog.underlying 9 = some TypeDesc.string := by kernel_rfl
@[simp] theorem z9 : sizeOf? Tryd.prog 9 = some 1 := by kernel_rfl
@[simp] theorem v9 : zeroV Tryd.prog 9 = some [V.str { data := #[] }] := by kernel_rfl
@[simp] theorem g9 (cs : List V) (off : Nat) : getV Tryd.prog 9 cs off = cs[off]? := getV_flat (by kernel_rfl) (by kernel_rfl)
@[simp] theorem f9 {n : Nat} (h : n * 16 < 140737488355328) : fits Tryd.prog 9 n = true := fits_of (sz := 1) (b := 16) (by kernel_rfl) (by decide) (by decide) h
/-! 12: uintptr -/
@[simp] theorem u12 : Tryd.prog.underlying 12 = some (TypeDesc.int IntKind.u64) := by kernel_rfl
@[simp] theorem z12 : sizeOf? Tryd.prog 12 = some 1 := by kernel_rfl
@[simp] theorem v12 : zeroV Tryd.prog 12 = some [V.int IntKind.u64 0] := by kernel_rfl
@[simp] theorem g12 (cs : List V) (off : Nat) : getV Tryd.prog 12 cs off = cs[off]? := getV_flat (by kernel_rfl) (by kernel_rfl)
@[simp] theorem f12 {n : Nat} (h : n * 8 < 140737488355328) : fits Tryd.prog 12 n = true := fits_of (sz := 1) (b := 8) (by kernel_rfl) (by decide) (by decide) h
/-! 13: struct ( msg string; addr uintptr ) -/
@[simp] theorem u13 : Tryd.prog.underlying 13 = some (TypeDesc.struct #[{ name := "msg", type := 9, offset := 0, embedded := false, tag := "", pkgPath := "runtime", byteOffset := 0 }, { name := "addr", type := 12, offset := 1, embedded := false, tag := "", pkgPath := "runtime", byteOffset := 16 }]) := by kernel_rfl
@[simp] theorem z13 : sizeOf? Tryd.prog 13 = some 2 := by kernel_rfl
@[simp] theorem v13 : zeroV Tryd.prog 13 = some [V.str { data := #[] }, V.int IntKind.u64 0] := by kernel_rfl
@[simp] theorem g13 (cs : List V) (off : Nat) : getV Tryd.prog 13 cs off = if off + 2 ≤ cs.length then some (.agg ((cs.drop off).take 2)) else none := getV_agg (by kernel_rfl) (by kernel_rfl) (by kernel_rfl)
@[simp] theorem f13 {n : Nat} (h : n * 24 < 140737488355328) : fits Tryd.prog 13 n = true := fits_of (sz := 2) (b := 24) (by kernel_rfl) (by decide) (by decide) h
@[simp] theorem s13 : sized Tryd.prog 13 = true := by kernel_rfl
@[simp] theorem p13_0 : placeOf Tryd.prog 13 0 = some (0, 1) := by kernel_rfl
@[simp] theorem p13_1 : placeOf Tryd.prog 13 1 = some (1, 1) := by kernel_rfl
/-! 21: int32 -/
@[simp] theorem u21 : Tryd.prog.underlying 21 = some (TypeDesc.int IntKind.i32) := by kernel_rfl
@[simp] theorem z21 : sizeOf? Tryd.prog 21 = some 1 := by kernel_rfl
@[simp] theorem v21 : zeroV Tryd.prog 21 = some [V.int IntKind.i32 0] := by kernel_rfl
@[simp] theorem g21 (cs : List V) (off : Nat) : getV Tryd.prog 21 cs off = cs[off]? := getV_flat (by kernel_rfl) (by kernel_rfl)
@[simp] theorem f21 {n : Nat} (h : n * 4 < 140737488355328) : fits Tryd.prog 21 n = true := fits_of (sz := 1) (b := 4) (by kernel_rfl) (by decide) (by decide) h
/-! 22: []api.Column -/
@[simp] theorem u22 : Tryd.prog.underlying 22 = some (TypeDesc.slice 89) := by kernel_rfl
@[simp] theorem z22 : sizeOf? Tryd.prog 22 = some 1 := by kernel_rfl
@[simp] theorem v22 : zeroV Tryd.prog 22 = some [V.nils] := by kernel_rfl
@[simp] theorem g22 (cs : List V) (off : Nat) : getV Tryd.prog 22 cs off = cs[off]? := getV_flat (by kernel_rfl) (by kernel_rfl)
@[simp] theorem f22 {n : Nat} (h : n * 24 < 140737488355328) : fits Tryd.prog 22 n = true := fits_of (sz := 1) (b := 24) (by kernel_rfl) (by decide) (by decide) h
/-! 23: struct ( Cols []api.Column; Keys int ) -/
@[simp] theorem u23 : Tryd.prog.underlying 23 = some (TypeDesc.struct #[{ name := "Cols", type := 22, offset := 0, embedded := false, tag := "", pkgPath := "", byteOffset := 0 }, { name := "Keys", type := 3, offset := 1, embedded := false, tag := "", pkgPath := "", byteOffset := 24 }]) := by kernel_rfl
@[simp] theorem z23 : sizeOf? Tryd.prog 23 = some 2 := by kernel_rfl
@[simp] theorem v23 : zeroV Tryd.prog 23 = some [V.nils, V.int IntKind.i64 0] := by kernel_rfl
@[simp] theorem g23 (cs : List V) (off : Nat) : getV Tryd.prog 23 cs off = if off + 2 ≤ cs.length then some (.agg ((cs.drop off).take 2)) else none := getV_agg (by kernel_rfl) (by kernel_rfl) (by kernel_rfl)
@[simp] theorem f23 {n : Nat} (h : n * 32 < 140737488355328) : fits Tryd.prog 23 n = true := fits_of (sz := 2) (b := 32) (by kernel_rfl) (by decide) (by decide) h
@[simp] theorem s23 : sized Tryd.prog 23 = true := by kernel_rfl
@[simp] theorem p23_0 : placeOf Tryd.prog 23 0 = some (0, 1) := by kernel_rfl
@[simp] theorem p23_1 : placeOf Tryd.prog 23 1 = some (1, 1) := by kernel_rfl
/-! 24: api.Schema = stoa/api.Schema -/
@[simp] theorem u24 : Tryd.prog.underlying 24 = some (TypeDesc.struct #[{ name := "Cols", type := 22, offset := 0, embedded := false, tag := "", pkgPath := "", byteOffset := 0 }, { name := "Keys", type := 3, offset := 1, embedded := false, tag := "", pkgPath := "", byteOffset := 24 }]) := by kernel_rfl
@[simp] theorem z24 : sizeOf? Tryd.prog 24 = some 2 := by kernel_rfl
@[simp] theorem v24 : zeroV Tryd.prog 24 = some [V.nils, V.int IntKind.i64 0] := by kernel_rfl
@[simp] theorem g24 (cs : List V) (off : Nat) : getV Tryd.prog 24 cs off = if off + 2 ≤ cs.length then some (.agg ((cs.drop off).take 2)) else none := getV_agg (by kernel_rfl) (by kernel_rfl) (by kernel_rfl)
@[simp] theorem f24 {n : Nat} (h : n * 32 < 140737488355328) : fits Tryd.prog 24 n = true := fits_of (sz := 2) (b := 32) (by kernel_rfl) (by decide) (by decide) h
@[simp] theorem s24 : sized Tryd.prog 24 = true := by kernel_rfl
@[simp] theorem p24_0 : placeOf Tryd.prog 24 0 = some (0, 1) := by kernel_rfl
@[simp] theorem p24_1 : placeOf Tryd.prog 24 1 = some (1, 1) := by kernel_rfl
/-! 25: []api.Cell -/
@[simp] theorem u25 : Tryd.prog.underlying 25 = some (TypeDesc.slice 82) := by kernel_rfl
@[simp] theorem z25 : sizeOf? Tryd.prog 25 = some 1 := by kernel_rfl
@[simp] theorem v25 : zeroV Tryd.prog 25 = some [V.nils] := by kernel_rfl
@[simp] theorem g25 (cs : List V) (off : Nat) : getV Tryd.prog 25 cs off = cs[off]? := getV_flat (by kernel_rfl) (by kernel_rfl)
@[simp] theorem f25 {n : Nat} (h : n * 24 < 140737488355328) : fits Tryd.prog 25 n = true := fits_of (sz := 1) (b := 24) (by kernel_rfl) (by decide) (by decide) h
/-! 26: []api.Set -/
@[simp] theorem u26 : Tryd.prog.underlying 26 = some (TypeDesc.slice 84) := by kernel_rfl
@[simp] theorem z26 : sizeOf? Tryd.prog 26 = some 1 := by kernel_rfl
@[simp] theorem v26 : zeroV Tryd.prog 26 = some [V.nils] := by kernel_rfl
@[simp] theorem g26 (cs : List V) (off : Nat) : getV Tryd.prog 26 cs off = cs[off]? := getV_flat (by kernel_rfl) (by kernel_rfl)
@[simp] theorem f26 {n : Nat} (h : n * 24 < 140737488355328) : fits Tryd.prog 26 n = true := fits_of (sz := 1) (b := 24) (by kernel_rfl) (by decide) (by decide) h
/-! 27: struct ( Kind int; Row []api.Cell; Sets []api.Set ) -/
@[simp] theorem u27 : Tryd.prog.underlying 27 = some (TypeDesc.struct #[{ name := "Kind", type := 3, offset := 0, embedded := false, tag := "", pkgPath := "", byteOffset := 0 }, { name := "Row", type := 25, offset := 1, embedded := false, tag := "", pkgPath := "", byteOffset := 8 }, { name := "Sets", type := 26, offset := 2, embedded := false, tag := "", pkgPath := "", byteOffset := 32 }]) := by kernel_rfl
@[simp] theorem z27 : sizeOf? Tryd.prog 27 = some 3 := by kernel_rfl
@[simp] theorem v27 : zeroV Tryd.prog 27 = some [V.int IntKind.i64 0, V.nils, V.nils] := by kernel_rfl
@[simp] theorem g27 (cs : List V) (off : Nat) : getV Tryd.prog 27 cs off = if off + 3 ≤ cs.length then some (.agg ((cs.drop off).take 3)) else none := getV_agg (by kernel_rfl) (by kernel_rfl) (by kernel_rfl)
@[simp] theorem f27 {n : Nat} (h : n * 56 < 140737488355328) : fits Tryd.prog 27 n = true := fits_of (sz := 3) (b := 56) (by kernel_rfl) (by decide) (by decide) h
@[simp] theorem s27 : sized Tryd.prog 27 = true := by kernel_rfl
@[simp] theorem p27_0 : placeOf Tryd.prog 27 0 = some (0, 1) := by kernel_rfl
@[simp] theorem p27_1 : placeOf Tryd.prog 27 1 = some (1, 1) := by kernel_rfl
@[simp] theorem p27_2 : placeOf Tryd.prog 27 2 = some (2, 1) := by kernel_rfl
/-! 28: api.Op = stoa/api.Op -/
@[simp] theorem u28 : Tryd.prog.underlying 28 = some (TypeDesc.struct #[{ name := "Kind", type := 3, offset := 0, embedded := false, tag := "", pkgPath := "", byteOffset := 0 }, { name := "Row", type := 25, offset := 1, embedded := false, tag := "", pkgPath := "", byteOffset := 8 }, { name := "Sets", type := 26, offset := 2, embedded := false, tag := "", pkgPath := "", byteOffset := 32 }]) := by kernel_rfl
@[simp] theorem z28 : sizeOf? Tryd.prog 28 = some 3 := by kernel_rfl
@[simp] theorem v28 : zeroV Tryd.prog 28 = some [V.int IntKind.i64 0, V.nils, V.nils] := by kernel_rfl
@[simp] theorem g28 (cs : List V) (off : Nat) : getV Tryd.prog 28 cs off = if off + 3 ≤ cs.length then some (.agg ((cs.drop off).take 3)) else none := getV_agg (by kernel_rfl) (by kernel_rfl) (by kernel_rfl)
@[simp] theorem f28 {n : Nat} (h : n * 56 < 140737488355328) : fits Tryd.prog 28 n = true := fits_of (sz := 3) (b := 56) (by kernel_rfl) (by decide) (by decide) h
@[simp] theorem s28 : sized Tryd.prog 28 = true := by kernel_rfl
@[simp] theorem p28_0 : placeOf Tryd.prog 28 0 = some (0, 1) := by kernel_rfl
@[simp] theorem p28_1 : placeOf Tryd.prog 28 1 = some (1, 1) := by kernel_rfl
@[simp] theorem p28_2 : placeOf Tryd.prog 28 2 = some (2, 1) := by kernel_rfl
/-! 32: api.Errno = stoa/api.Errno -/
@[simp] theorem u32 : Tryd.prog.underlying 32 = some (TypeDesc.int IntKind.i64) := by kernel_rfl
@[simp] theorem z32 : sizeOf? Tryd.prog 32 = some 1 := by kernel_rfl
@[simp] theorem v32 : zeroV Tryd.prog 32 = some [V.int IntKind.i64 0] := by kernel_rfl
@[simp] theorem g32 (cs : List V) (off : Nat) : getV Tryd.prog 32 cs off = cs[off]? := getV_flat (by kernel_rfl) (by kernel_rfl)
@[simp] theorem f32 {n : Nat} (h : n * 8 < 140737488355328) : fits Tryd.prog 32 n = true := fits_of (sz := 1) (b := 8) (by kernel_rfl) (by decide) (by decide) h
/-! 44: []int -/
@[simp] theorem u44 : Tryd.prog.underlying 44 = some (TypeDesc.slice 3) := by kernel_rfl
@[simp] theorem z44 : sizeOf? Tryd.prog 44 = some 1 := by kernel_rfl
@[simp] theorem v44 : zeroV Tryd.prog 44 = some [V.nils] := by kernel_rfl
@[simp] theorem g44 (cs : List V) (off : Nat) : getV Tryd.prog 44 cs off = cs[off]? := getV_flat (by kernel_rfl) (by kernel_rfl)
@[simp] theorem f44 {n : Nat} (h : n * 24 < 140737488355328) : fits Tryd.prog 44 n = true := fits_of (sz := 1) (b := 24) (by kernel_rfl) (by decide) (by decide) h
/-! 53: [][]uint8 -/
@[simp] theorem u53 : Tryd.prog.underlying 53 = some (TypeDesc.slice 59) := by kernel_rfl
@[simp] theorem z53 : sizeOf? Tryd.prog 53 = some 1 := by kernel_rfl
@[simp] theorem v53 : zeroV Tryd.prog 53 = some [V.nils] := by kernel_rfl
@[simp] theorem g53 (cs : List V) (off : Nat) : getV Tryd.prog 53 cs off = cs[off]? := getV_flat (by kernel_rfl) (by kernel_rfl)
@[simp] theorem f53 {n : Nat} (h : n * 24 < 140737488355328) : fits Tryd.prog 53 n = true := fits_of (sz := 1) (b := 24) (by kernel_rfl) (by decide) (by decide) h
/-! 59: []uint8 -/
@[simp] theorem u59 : Tryd.prog.underlying 59 = some (TypeDesc.slice 5) := by kernel_rfl
@[simp] theorem z59 : sizeOf? Tryd.prog 59 = some 1 := by kernel_rfl
@[simp] theorem v59 : zeroV Tryd.prog 59 = some [V.nils] := by kernel_rfl
@[simp] theorem g59 (cs : List V) (off : Nat) : getV Tryd.prog 59 cs off = cs[off]? := getV_flat (by kernel_rfl) (by kernel_rfl)
@[simp] theorem f59 {n : Nat} (h : n * 24 < 140737488355328) : fits Tryd.prog 59 n = true := fits_of (sz := 1) (b := 24) (by kernel_rfl) (by decide) (by decide) h
/-! 81: struct ( Null bool; Int int64; B []uint8 ) -/
@[simp] theorem u81 : Tryd.prog.underlying 81 = some (TypeDesc.struct #[{ name := "Null", type := 4, offset := 0, embedded := false, tag := "", pkgPath := "", byteOffset := 0 }, { name := "Int", type := 2, offset := 1, embedded := false, tag := "", pkgPath := "", byteOffset := 8 }, { name := "B", type := 59, offset := 2, embedded := false, tag := "", pkgPath := "", byteOffset := 16 }]) := by kernel_rfl
@[simp] theorem z81 : sizeOf? Tryd.prog 81 = some 3 := by kernel_rfl
@[simp] theorem v81 : zeroV Tryd.prog 81 = some [V.bool false, V.int IntKind.i64 0, V.nils] := by kernel_rfl
@[simp] theorem g81 (cs : List V) (off : Nat) : getV Tryd.prog 81 cs off = if off + 3 ≤ cs.length then some (.agg ((cs.drop off).take 3)) else none := getV_agg (by kernel_rfl) (by kernel_rfl) (by kernel_rfl)
@[simp] theorem f81 {n : Nat} (h : n * 40 < 140737488355328) : fits Tryd.prog 81 n = true := fits_of (sz := 3) (b := 40) (by kernel_rfl) (by decide) (by decide) h
@[simp] theorem s81 : sized Tryd.prog 81 = true := by kernel_rfl
@[simp] theorem p81_0 : placeOf Tryd.prog 81 0 = some (0, 1) := by kernel_rfl
@[simp] theorem p81_1 : placeOf Tryd.prog 81 1 = some (1, 1) := by kernel_rfl
@[simp] theorem p81_2 : placeOf Tryd.prog 81 2 = some (2, 1) := by kernel_rfl
/-! 82: api.Cell = stoa/api.Cell -/
@[simp] theorem u82 : Tryd.prog.underlying 82 = some (TypeDesc.struct #[{ name := "Null", type := 4, offset := 0, embedded := false, tag := "", pkgPath := "", byteOffset := 0 }, { name := "Int", type := 2, offset := 1, embedded := false, tag := "", pkgPath := "", byteOffset := 8 }, { name := "B", type := 59, offset := 2, embedded := false, tag := "", pkgPath := "", byteOffset := 16 }]) := by kernel_rfl
@[simp] theorem z82 : sizeOf? Tryd.prog 82 = some 3 := by kernel_rfl
@[simp] theorem v82 : zeroV Tryd.prog 82 = some [V.bool false, V.int IntKind.i64 0, V.nils] := by kernel_rfl
@[simp] theorem g82 (cs : List V) (off : Nat) : getV Tryd.prog 82 cs off = if off + 3 ≤ cs.length then some (.agg ((cs.drop off).take 3)) else none := getV_agg (by kernel_rfl) (by kernel_rfl) (by kernel_rfl)
@[simp] theorem f82 {n : Nat} (h : n * 40 < 140737488355328) : fits Tryd.prog 82 n = true := fits_of (sz := 3) (b := 40) (by kernel_rfl) (by decide) (by decide) h
@[simp] theorem s82 : sized Tryd.prog 82 = true := by kernel_rfl
@[simp] theorem p82_0 : placeOf Tryd.prog 82 0 = some (0, 1) := by kernel_rfl
@[simp] theorem p82_1 : placeOf Tryd.prog 82 1 = some (1, 1) := by kernel_rfl
@[simp] theorem p82_2 : placeOf Tryd.prog 82 2 = some (2, 1) := by kernel_rfl
/-! 83: struct ( Col int; Cell api.Cell ) -/
@[simp] theorem u83 : Tryd.prog.underlying 83 = some (TypeDesc.struct #[{ name := "Col", type := 3, offset := 0, embedded := false, tag := "", pkgPath := "", byteOffset := 0 }, { name := "Cell", type := 82, offset := 1, embedded := false, tag := "", pkgPath := "", byteOffset := 8 }]) := by kernel_rfl
@[simp] theorem z83 : sizeOf? Tryd.prog 83 = some 4 := by kernel_rfl
@[simp] theorem v83 : zeroV Tryd.prog 83 = some [V.int IntKind.i64 0, V.bool false, V.int IntKind.i64 0, V.nils] := by kernel_rfl
@[simp] theorem g83 (cs : List V) (off : Nat) : getV Tryd.prog 83 cs off = if off + 4 ≤ cs.length then some (.agg ((cs.drop off).take 4)) else none := getV_agg (by kernel_rfl) (by kernel_rfl) (by kernel_rfl)
@[simp] theorem f83 {n : Nat} (h : n * 48 < 140737488355328) : fits Tryd.prog 83 n = true := fits_of (sz := 4) (b := 48) (by kernel_rfl) (by decide) (by decide) h
@[simp] theorem s83 : sized Tryd.prog 83 = true := by kernel_rfl
@[simp] theorem p83_0 : placeOf Tryd.prog 83 0 = some (0, 1) := by kernel_rfl
@[simp] theorem p83_1 : placeOf Tryd.prog 83 1 = some (1, 3) := by kernel_rfl
/-! 84: api.Set = stoa/api.Set -/
@[simp] theorem u84 : Tryd.prog.underlying 84 = some (TypeDesc.struct #[{ name := "Col", type := 3, offset := 0, embedded := false, tag := "", pkgPath := "", byteOffset := 0 }, { name := "Cell", type := 82, offset := 1, embedded := false, tag := "", pkgPath := "", byteOffset := 8 }]) := by kernel_rfl
@[simp] theorem z84 : sizeOf? Tryd.prog 84 = some 4 := by kernel_rfl
@[simp] theorem v84 : zeroV Tryd.prog 84 = some [V.int IntKind.i64 0, V.bool false, V.int IntKind.i64 0, V.nils] := by kernel_rfl
@[simp] theorem g84 (cs : List V) (off : Nat) : getV Tryd.prog 84 cs off = if off + 4 ≤ cs.length then some (.agg ((cs.drop off).take 4)) else none := getV_agg (by kernel_rfl) (by kernel_rfl) (by kernel_rfl)
@[simp] theorem f84 {n : Nat} (h : n * 48 < 140737488355328) : fits Tryd.prog 84 n = true := fits_of (sz := 4) (b := 48) (by kernel_rfl) (by decide) (by decide) h
@[simp] theorem s84 : sized Tryd.prog 84 = true := by kernel_rfl
@[simp] theorem p84_0 : placeOf Tryd.prog 84 0 = some (0, 1) := by kernel_rfl
@[simp] theorem p84_1 : placeOf Tryd.prog 84 1 = some (1, 3) := by kernel_rfl
/-! 88: struct ( Name string; Kind int; Null bool ) -/
@[simp] theorem u88 : Tryd.prog.underlying 88 = some (TypeDesc.struct #[{ name := "Name", type := 9, offset := 0, embedded := false, tag := "", pkgPath := "", byteOffset := 0 }, { name := "Kind", type := 3, offset := 1, embedded := false, tag := "", pkgPath := "", byteOffset := 16 }, { name := "Null", type := 4, offset := 2, embedded := false, tag := "", pkgPath := "", byteOffset := 24 }]) := by kernel_rfl
@[simp] theorem z88 : sizeOf? Tryd.prog 88 = some 3 := by kernel_rfl
@[simp] theorem v88 : zeroV Tryd.prog 88 = some [V.str { data := #[] }, V.int IntKind.i64 0, V.bool false] := by kernel_rfl
@[simp] theorem g88 (cs : List V) (off : Nat) : getV Tryd.prog 88 cs off = if off + 3 ≤ cs.length then some (.agg ((cs.drop off).take 3)) else none := getV_agg (by kernel_rfl) (by kernel_rfl) (by kernel_rfl)
@[simp] theorem f88 {n : Nat} (h : n * 32 < 140737488355328) : fits Tryd.prog 88 n = true := fits_of (sz := 3) (b := 32) (by kernel_rfl) (by decide) (by decide) h
@[simp] theorem e88 : flat Tryd.prog 88 = some [TypeDesc.string, TypeDesc.int IntKind.i64, TypeDesc.bool] := by kernel_rfl
@[simp] theorem s88 : sized Tryd.prog 88 = true := by kernel_rfl
@[simp] theorem p88_0 : placeOf Tryd.prog 88 0 = some (0, 1) := by kernel_rfl
@[simp] theorem p88_1 : placeOf Tryd.prog 88 1 = some (1, 1) := by kernel_rfl
@[simp] theorem p88_2 : placeOf Tryd.prog 88 2 = some (2, 1) := by kernel_rfl
/-! 89: api.Column = stoa/api.Column -/
@[simp] theorem u89 : Tryd.prog.underlying 89 = some (TypeDesc.struct #[{ name := "Name", type := 9, offset := 0, embedded := false, tag := "", pkgPath := "", byteOffset := 0 }, { name := "Kind", type := 3, offset := 1, embedded := false, tag := "", pkgPath := "", byteOffset := 16 }, { name := "Null", type := 4, offset := 2, embedded := false, tag := "", pkgPath := "", byteOffset := 24 }]) := by kernel_rfl
@[simp] theorem z89 : sizeOf? Tryd.prog 89 = some 3 := by kernel_rfl
@[simp] theorem v89 : zeroV Tryd.prog 89 = some [V.str { data := #[] }, V.int IntKind.i64 0, V.bool false] := by kernel_rfl
@[simp] theorem g89 (cs : List V) (off : Nat) : getV Tryd.prog 89 cs off = if off + 3 ≤ cs.length then some (.agg ((cs.drop off).take 3)) else none := getV_agg (by kernel_rfl) (by kernel_rfl) (by kernel_rfl)
@[simp] theorem f89 {n : Nat} (h : n * 32 < 140737488355328) : fits Tryd.prog 89 n = true := fits_of (sz := 3) (b := 32) (by kernel_rfl) (by decide) (by decide) h
@[simp] theorem e89 : flat Tryd.prog 89 = some [TypeDesc.string, TypeDesc.int IntKind.i64, TypeDesc.bool] := by kernel_rfl
@[simp] theorem s89 : sized Tryd.prog 89 = true := by kernel_rfl
@[simp] theorem p89_0 : placeOf Tryd.prog 89 0 = some (0, 1) := by kernel_rfl
@[simp] theorem p89_1 : placeOf Tryd.prog 89 1 = some (1, 1) := by kernel_rfl
@[simp] theorem p89_2 : placeOf Tryd.prog 89 2 = some (2, 1) := by kernel_rfl
/-! 90: map[string]bool -/
@[simp] theorem u90 : Tryd.prog.underlying 90 = some (TypeDesc.map 9 4) := by kernel_rfl
@[simp] theorem z90 : sizeOf? Tryd.prog 90 = some 1 := by kernel_rfl
@[simp] theorem v90 : zeroV Tryd.prog 90 = some [V.nilm] := by kernel_rfl
@[simp] theorem g90 (cs : List V) (off : Nat) : getV Tryd.prog 90 cs off = cs[off]? := getV_flat (by kernel_rfl) (by kernel_rfl)
@[simp] theorem f90 {n : Nat} (h : n * 8 < 140737488355328) : fits Tryd.prog 90 n = true := fits_of (sz := 1) (b := 8) (by kernel_rfl) (by decide) (by decide) h
/-! 103: uint64 -/
@[simp] theorem u103 : Tryd.prog.underlying 103 = some (TypeDesc.int IntKind.u64) := by kernel_rfl
@[simp] theorem z103 : sizeOf? Tryd.prog 103 = some 1 := by kernel_rfl
@[simp] theorem v103 : zeroV Tryd.prog 103 = some [V.int IntKind.u64 0] := by kernel_rfl
@[simp] theorem g103 (cs : List V) (off : Nat) : getV Tryd.prog 103 cs off = cs[off]? := getV_flat (by kernel_rfl) (by kernel_rfl)
@[simp] theorem f103 {n : Nat} (h : n * 8 < 140737488355328) : fits Tryd.prog 103 n = true := fits_of (sz := 1) (b := 8) (by kernel_rfl) (by decide) (by decide) h
/-! 119: uint -/
@[simp] theorem u119 : Tryd.prog.underlying 119 = some (TypeDesc.int IntKind.u64) := by kernel_rfl
@[simp] theorem z119 : sizeOf? Tryd.prog 119 = some 1 := by kernel_rfl
@[simp] theorem v119 : zeroV Tryd.prog 119 = some [V.int IntKind.u64 0] := by kernel_rfl
@[simp] theorem g119 (cs : List V) (off : Nat) : getV Tryd.prog 119 cs off = cs[off]? := getV_flat (by kernel_rfl) (by kernel_rfl)
@[simp] theorem f119 {n : Nat} (h : n * 8 < 140737488355328) : fits Tryd.prog 119 n = true := fits_of (sz := 1) (b := 8) (by kernel_rfl) (by decide) (by decide) h
/-! 123: [256]bool -/
@[simp] theorem u123 : Tryd.prog.underlying 123 = some (TypeDesc.array 256 4) := by kernel_rfl
@[simp] theorem z123 : sizeOf? Tryd.prog 123 = some 256 := by kernel_rfl
@[simp] theorem g123 (cs : List V) (off : Nat) : getV Tryd.prog 123 cs off = if off + 256 ≤ cs.length then some (.agg ((cs.drop off).take 256)) else none := getV_agg (by kernel_rfl) (by kernel_rfl) (by kernel_rfl)
@[simp] theorem f123 {n : Nat} (h : n * 256 < 140737488355328) : fits Tryd.prog 123 n = true := fits_of (sz := 256) (b := 256) (by kernel_rfl) (by decide) (by decide) h
@[simp] theorem s123 : sized Tryd.prog 123 = true := by kernel_rfl
@[simp] theorem p123_0 : placeOf Tryd.prog 123 0 = some (0, 1) := by kernel_rfl
@[simp] theorem p123_1 : placeOf Tryd.prog 123 1 = some (1, 1) := by kernel_rfl
@[simp] theorem p123_2 : placeOf Tryd.prog 123 2 = some (2, 1) := by kernel_rfl
@[simp] theorem p123_3 : placeOf Tryd.prog 123 3 = some (3, 1) := by kernel_rfl
@[simp] theorem p123_4 : placeOf Tryd.prog 123 4 = some (4, 1) := by kernel_rfl
@[simp] theorem p123_5 : placeOf Tryd.prog 123 5 = some (5, 1) := by kernel_rfl
@[simp] theorem p123_6 : placeOf Tryd.prog 123 6 = some (6, 1) := by kernel_rfl
@[simp] theorem p123_7 : placeOf Tryd.prog 123 7 = some (7, 1) := by kernel_rfl
@[simp] theorem p123_8 : placeOf Tryd.prog 123 8 = some (8, 1) := by kernel_rfl
@[simp] theorem p123_9 : placeOf Tryd.prog 123 9 = some (9, 1) := by kernel_rfl
@[simp] theorem p123_10 : placeOf Tryd.prog 123 10 = some (10, 1) := by kernel_rfl
@[simp] theorem p123_11 : placeOf Tryd.prog 123 11 = some (11, 1) := by kernel_rfl
@[simp] theorem p123_12 : placeOf Tryd.prog 123 12 = some (12, 1) := by kernel_rfl
@[simp] theorem p123_13 : placeOf Tryd.prog 123 13 = some (13, 1) := by kernel_rfl
@[simp] theorem p123_14 : placeOf Tryd.prog 123 14 = some (14, 1) := by kernel_rfl
@[simp] theorem p123_15 : placeOf Tryd.prog 123 15 = some (15, 1) := by kernel_rfl
@[simp] theorem p123_16 : placeOf Tryd.prog 123 16 = some (16, 1) := by kernel_rfl
@[simp] theorem p123_17 : placeOf Tryd.prog 123 17 = some (17, 1) := by kernel_rfl
@[simp] theorem p123_18 : placeOf Tryd.prog 123 18 = some (18, 1) := by kernel_rfl
@[simp] theorem p123_19 : placeOf Tryd.prog 123 19 = some (19, 1) := by kernel_rfl
@[simp] theorem p123_20 : placeOf Tryd.prog 123 20 = some (20, 1) := by kernel_rfl
@[simp] theorem p123_21 : placeOf Tryd.prog 123 21 = some (21, 1) := by kernel_rfl
@[simp] theorem p123_22 : placeOf Tryd.prog 123 22 = some (22, 1) := by kernel_rfl
@[simp] theorem p123_23 : placeOf Tryd.prog 123 23 = some (23, 1) := by kernel_rfl
@[simp] theorem p123_24 : placeOf Tryd.prog 123 24 = some (24, 1) := by kernel_rfl
@[simp] theorem p123_25 : placeOf Tryd.prog 123 25 = some (25, 1) := by kernel_rfl
@[simp] theorem p123_26 : placeOf Tryd.prog 123 26 = some (26, 1) := by kernel_rfl
@[simp] theorem p123_27 : placeOf Tryd.prog 123 27 = some (27, 1) := by kernel_rfl
@[simp] theorem p123_28 : placeOf Tryd.prog 123 28 = some (28, 1) := by kernel_rfl
@[simp] theorem p123_29 : placeOf Tryd.prog 123 29 = some (29, 1) := by kernel_rfl
@[simp] theorem p123_30 : placeOf Tryd.prog 123 30 = some (30, 1) := by kernel_rfl
@[simp] theorem p123_31 : placeOf Tryd.prog 123 31 = some (31, 1) := by kernel_rfl
@[simp] theorem p123_32 : placeOf Tryd.prog 123 32 = some (32, 1) := by kernel_rfl
@[simp] theorem p123_33 : placeOf Tryd.prog 123 33 = some (33, 1) := by kernel_rfl
@[simp] theorem p123_34 : placeOf Tryd.prog 123 34 = some (34, 1) := by kernel_rfl
@[simp] theorem p123_35 : placeOf Tryd.prog 123 35 = some (35, 1) := by kernel_rfl
@[simp] theorem p123_36 : placeOf Tryd.prog 123 36 = some (36, 1) := by kernel_rfl
@[simp] theorem p123_37 : placeOf Tryd.prog 123 37 = some (37, 1) := by kernel_rfl
@[simp] theorem p123_38 : placeOf Tryd.prog 123 38 = some (38, 1) := by kernel_rfl
@[simp] theorem p123_39 : placeOf Tryd.prog 123 39 = some (39, 1) := by kernel_rfl
/-! 124: strings.asciiSet -/
@[simp] theorem u124 : Tryd.prog.underlying 124 = some (TypeDesc.array 256 4) := by kernel_rfl
@[simp] theorem z124 : sizeOf? Tryd.prog 124 = some 256 := by kernel_rfl
@[simp] theorem g124 (cs : List V) (off : Nat) : getV Tryd.prog 124 cs off = if off + 256 ≤ cs.length then some (.agg ((cs.drop off).take 256)) else none := getV_agg (by kernel_rfl) (by kernel_rfl) (by kernel_rfl)
@[simp] theorem f124 {n : Nat} (h : n * 256 < 140737488355328) : fits Tryd.prog 124 n = true := fits_of (sz := 256) (b := 256) (by kernel_rfl) (by decide) (by decide) h
@[simp] theorem s124 : sized Tryd.prog 124 = true := by kernel_rfl
@[simp] theorem p124_0 : placeOf Tryd.prog 124 0 = some (0, 1) := by kernel_rfl
@[simp] theorem p124_1 : placeOf Tryd.prog 124 1 = some (1, 1) := by kernel_rfl
@[simp] theorem p124_2 : placeOf Tryd.prog 124 2 = some (2, 1) := by kernel_rfl
@[simp] theorem p124_3 : placeOf Tryd.prog 124 3 = some (3, 1) := by kernel_rfl
@[simp] theorem p124_4 : placeOf Tryd.prog 124 4 = some (4, 1) := by kernel_rfl
@[simp] theorem p124_5 : placeOf Tryd.prog 124 5 = some (5, 1) := by kernel_rfl
@[simp] theorem p124_6 : placeOf Tryd.prog 124 6 = some (6, 1) := by kernel_rfl
@[simp] theorem p124_7 : placeOf Tryd.prog 124 7 = some (7, 1) := by kernel_rfl
@[simp] theorem p124_8 : placeOf Tryd.prog 124 8 = some (8, 1) := by kernel_rfl
@[simp] theorem p124_9 : placeOf Tryd.prog 124 9 = some (9, 1) := by kernel_rfl
@[simp] theorem p124_10 : placeOf Tryd.prog 124 10 = some (10, 1) := by kernel_rfl
@[simp] theorem p124_11 : placeOf Tryd.prog 124 11 = some (11, 1) := by kernel_rfl
@[simp] theorem p124_12 : placeOf Tryd.prog 124 12 = some (12, 1) := by kernel_rfl
@[simp] theorem p124_13 : placeOf Tryd.prog 124 13 = some (13, 1) := by kernel_rfl
@[simp] theorem p124_14 : placeOf Tryd.prog 124 14 = some (14, 1) := by kernel_rfl
@[simp] theorem p124_15 : placeOf Tryd.prog 124 15 = some (15, 1) := by kernel_rfl
@[simp] theorem p124_16 : placeOf Tryd.prog 124 16 = some (16, 1) := by kernel_rfl
@[simp] theorem p124_17 : placeOf Tryd.prog 124 17 = some (17, 1) := by kernel_rfl
@[simp] theorem p124_18 : placeOf Tryd.prog 124 18 = some (18, 1) := by kernel_rfl
@[simp] theorem p124_19 : placeOf Tryd.prog 124 19 = some (19, 1) := by kernel_rfl
@[simp] theorem p124_20 : placeOf Tryd.prog 124 20 = some (20, 1) := by kernel_rfl
@[simp] theorem p124_21 : placeOf Tryd.prog 124 21 = some (21, 1) := by kernel_rfl
@[simp] theorem p124_22 : placeOf Tryd.prog 124 22 = some (22, 1) := by kernel_rfl
@[simp] theorem p124_23 : placeOf Tryd.prog 124 23 = some (23, 1) := by kernel_rfl
@[simp] theorem p124_24 : placeOf Tryd.prog 124 24 = some (24, 1) := by kernel_rfl
@[simp] theorem p124_25 : placeOf Tryd.prog 124 25 = some (25, 1) := by kernel_rfl
@[simp] theorem p124_26 : placeOf Tryd.prog 124 26 = some (26, 1) := by kernel_rfl
@[simp] theorem p124_27 : placeOf Tryd.prog 124 27 = some (27, 1) := by kernel_rfl
@[simp] theorem p124_28 : placeOf Tryd.prog 124 28 = some (28, 1) := by kernel_rfl
@[simp] theorem p124_29 : placeOf Tryd.prog 124 29 = some (29, 1) := by kernel_rfl
@[simp] theorem p124_30 : placeOf Tryd.prog 124 30 = some (30, 1) := by kernel_rfl
@[simp] theorem p124_31 : placeOf Tryd.prog 124 31 = some (31, 1) := by kernel_rfl
@[simp] theorem p124_32 : placeOf Tryd.prog 124 32 = some (32, 1) := by kernel_rfl
@[simp] theorem p124_33 : placeOf Tryd.prog 124 33 = some (33, 1) := by kernel_rfl
@[simp] theorem p124_34 : placeOf Tryd.prog 124 34 = some (34, 1) := by kernel_rfl
@[simp] theorem p124_35 : placeOf Tryd.prog 124 35 = some (35, 1) := by kernel_rfl
@[simp] theorem p124_36 : placeOf Tryd.prog 124 36 = some (36, 1) := by kernel_rfl
@[simp] theorem p124_37 : placeOf Tryd.prog 124 37 = some (37, 1) := by kernel_rfl
@[simp] theorem p124_38 : placeOf Tryd.prog 124 38 = some (38, 1) := by kernel_rfl
@[simp] theorem p124_39 : placeOf Tryd.prog 124 39 = some (39, 1) := by kernel_rfl
/-! 128: *strings.asciiSet -/
@[simp] theorem u128 : Tryd.prog.underlying 128 = some (TypeDesc.pointer 124) := by kernel_rfl
@[simp] theorem z128 : sizeOf? Tryd.prog 128 = some 1 := by kernel_rfl
@[simp] theorem v128 : zeroV Tryd.prog 128 = some [V.nilp] := by kernel_rfl
@[simp] theorem g128 (cs : List V) (off : Nat) : getV Tryd.prog 128 cs off = cs[off]? := getV_flat (by kernel_rfl) (by kernel_rfl)
@[simp] theorem f128 {n : Nat} (h : n * 8 < 140737488355328) : fits Tryd.prog 128 n = true := fits_of (sz := 1) (b := 8) (by kernel_rfl) (by decide) (by decide) h
/-! 130: uint16 -/
@[simp] theorem u130 : Tryd.prog.underlying 130 = some (TypeDesc.int IntKind.u16) := by kernel_rfl
@[simp] theorem z130 : sizeOf? Tryd.prog 130 = some 1 := by kernel_rfl
@[simp] theorem v130 : zeroV Tryd.prog 130 = some [V.int IntKind.u16 0] := by kernel_rfl
@[simp] theorem g130 (cs : List V) (off : Nat) : getV Tryd.prog 130 cs off = cs[off]? := getV_flat (by kernel_rfl) (by kernel_rfl)
@[simp] theorem f130 {n : Nat} (h : n * 2 < 140737488355328) : fits Tryd.prog 130 n = true := fits_of (sz := 1) (b := 2) (by kernel_rfl) (by decide) (by decide) h
/-! 138: int8 -/
@[simp] theorem u138 : Tryd.prog.underlying 138 = some (TypeDesc.int IntKind.i8) := by kernel_rfl
@[simp] theorem z138 : sizeOf? Tryd.prog 138 = some 1 := by kernel_rfl
@[simp] theorem v138 : zeroV Tryd.prog 138 = some [V.int IntKind.i8 0] := by kernel_rfl
@[simp] theorem g138 (cs : List V) (off : Nat) : getV Tryd.prog 138 cs off = cs[off]? := getV_flat (by kernel_rfl) (by kernel_rfl)
@[simp] theorem f138 {n : Nat} (h : n * 1 < 140737488355328) : fits Tryd.prog 138 n = true := fits_of (sz := 1) (b := 1) (by kernel_rfl) (by decide) (by decide) h
/-! 139: int16 -/
@[simp] theorem u139 : Tryd.prog.underlying 139 = some (TypeDesc.int IntKind.i16) := by kernel_rfl
@[simp] theorem z139 : sizeOf? Tryd.prog 139 = some 1 := by kernel_rfl
@[simp] theorem v139 : zeroV Tryd.prog 139 = some [V.int IntKind.i16 0] := by kernel_rfl
@[simp] theorem g139 (cs : List V) (off : Nat) : getV Tryd.prog 139 cs off = cs[off]? := getV_flat (by kernel_rfl) (by kernel_rfl)
@[simp] theorem f139 {n : Nat} (h : n * 2 < 140737488355328) : fits Tryd.prog 139 n = true := fits_of (sz := 1) (b := 2) (by kernel_rfl) (by decide) (by decide) h
/-! 141: [256]uint8 -/
@[simp] theorem u141 : Tryd.prog.underlying 141 = some (TypeDesc.array 256 5) := by kernel_rfl
@[simp] theorem z141 : sizeOf? Tryd.prog 141 = some 256 := by kernel_rfl
@[simp] theorem g141 (cs : List V) (off : Nat) : getV Tryd.prog 141 cs off = if off + 256 ≤ cs.length then some (.agg ((cs.drop off).take 256)) else none := getV_agg (by kernel_rfl) (by kernel_rfl) (by kernel_rfl)
@[simp] theorem f141 {n : Nat} (h : n * 256 < 140737488355328) : fits Tryd.prog 141 n = true := fits_of (sz := 256) (b := 256) (by kernel_rfl) (by decide) (by decide) h
@[simp] theorem e141 : flat Tryd.prog 141 = some (List.replicate 256 (.int IntKind.u8)) := by kernel_rfl
@[simp] theorem s141 : sized Tryd.prog 141 = true := by kernel_rfl
@[simp] theorem p141_0 : placeOf Tryd.prog 141 0 = some (0, 1) := by kernel_rfl
@[simp] theorem p141_1 : placeOf Tryd.prog 141 1 = some (1, 1) := by kernel_rfl
@[simp] theorem p141_2 : placeOf Tryd.prog 141 2 = some (2, 1) := by kernel_rfl
@[simp] theorem p141_3 : placeOf Tryd.prog 141 3 = some (3, 1) := by kernel_rfl
@[simp] theorem p141_4 : placeOf Tryd.prog 141 4 = some (4, 1) := by kernel_rfl
@[simp] theorem p141_5 : placeOf Tryd.prog 141 5 = some (5, 1) := by kernel_rfl
@[simp] theorem p141_6 : placeOf Tryd.prog 141 6 = some (6, 1) := by kernel_rfl
@[simp] theorem p141_7 : placeOf Tryd.prog 141 7 = some (7, 1) := by kernel_rfl
@[simp] theorem p141_8 : placeOf Tryd.prog 141 8 = some (8, 1) := by kernel_rfl
@[simp] theorem p141_9 : placeOf Tryd.prog 141 9 = some (9, 1) := by kernel_rfl
@[simp] theorem p141_10 : placeOf Tryd.prog 141 10 = some (10, 1) := by kernel_rfl
@[simp] theorem p141_11 : placeOf Tryd.prog 141 11 = some (11, 1) := by kernel_rfl
@[simp] theorem p141_12 : placeOf Tryd.prog 141 12 = some (12, 1) := by kernel_rfl
@[simp] theorem p141_13 : placeOf Tryd.prog 141 13 = some (13, 1) := by kernel_rfl
@[simp] theorem p141_14 : placeOf Tryd.prog 141 14 = some (14, 1) := by kernel_rfl
@[simp] theorem p141_15 : placeOf Tryd.prog 141 15 = some (15, 1) := by kernel_rfl
@[simp] theorem p141_16 : placeOf Tryd.prog 141 16 = some (16, 1) := by kernel_rfl
@[simp] theorem p141_17 : placeOf Tryd.prog 141 17 = some (17, 1) := by kernel_rfl
@[simp] theorem p141_18 : placeOf Tryd.prog 141 18 = some (18, 1) := by kernel_rfl
@[simp] theorem p141_19 : placeOf Tryd.prog 141 19 = some (19, 1) := by kernel_rfl
@[simp] theorem p141_20 : placeOf Tryd.prog 141 20 = some (20, 1) := by kernel_rfl
@[simp] theorem p141_21 : placeOf Tryd.prog 141 21 = some (21, 1) := by kernel_rfl
@[simp] theorem p141_22 : placeOf Tryd.prog 141 22 = some (22, 1) := by kernel_rfl
@[simp] theorem p141_23 : placeOf Tryd.prog 141 23 = some (23, 1) := by kernel_rfl
@[simp] theorem p141_24 : placeOf Tryd.prog 141 24 = some (24, 1) := by kernel_rfl
@[simp] theorem p141_25 : placeOf Tryd.prog 141 25 = some (25, 1) := by kernel_rfl
@[simp] theorem p141_26 : placeOf Tryd.prog 141 26 = some (26, 1) := by kernel_rfl
@[simp] theorem p141_27 : placeOf Tryd.prog 141 27 = some (27, 1) := by kernel_rfl
@[simp] theorem p141_28 : placeOf Tryd.prog 141 28 = some (28, 1) := by kernel_rfl
@[simp] theorem p141_29 : placeOf Tryd.prog 141 29 = some (29, 1) := by kernel_rfl
@[simp] theorem p141_30 : placeOf Tryd.prog 141 30 = some (30, 1) := by kernel_rfl
@[simp] theorem p141_31 : placeOf Tryd.prog 141 31 = some (31, 1) := by kernel_rfl
@[simp] theorem p141_32 : placeOf Tryd.prog 141 32 = some (32, 1) := by kernel_rfl
@[simp] theorem p141_33 : placeOf Tryd.prog 141 33 = some (33, 1) := by kernel_rfl
@[simp] theorem p141_34 : placeOf Tryd.prog 141 34 = some (34, 1) := by kernel_rfl
@[simp] theorem p141_35 : placeOf Tryd.prog 141 35 = some (35, 1) := by kernel_rfl
@[simp] theorem p141_36 : placeOf Tryd.prog 141 36 = some (36, 1) := by kernel_rfl
@[simp] theorem p141_37 : placeOf Tryd.prog 141 37 = some (37, 1) := by kernel_rfl
@[simp] theorem p141_38 : placeOf Tryd.prog 141 38 = some (38, 1) := by kernel_rfl
@[simp] theorem p141_39 : placeOf Tryd.prog 141 39 = some (39, 1) := by kernel_rfl
/-! 142: struct ( lo uint8; hi uint8 ) -/
@[simp] theorem u142 : Tryd.prog.underlying 142 = some (TypeDesc.struct #[{ name := "lo", type := 5, offset := 0, embedded := false, tag := "", pkgPath := "unicode/utf8", byteOffset := 0 }, { name := "hi", type := 5, offset := 1, embedded := false, tag := "", pkgPath := "unicode/utf8", byteOffset := 1 }]) := by kernel_rfl
@[simp] theorem z142 : sizeOf? Tryd.prog 142 = some 2 := by kernel_rfl
@[simp] theorem v142 : zeroV Tryd.prog 142 = some [V.int IntKind.u8 0, V.int IntKind.u8 0] := by kernel_rfl
@[simp] theorem g142 (cs : List V) (off : Nat) : getV Tryd.prog 142 cs off = if off + 2 ≤ cs.length then some (.agg ((cs.drop off).take 2)) else none := getV_agg (by kernel_rfl) (by kernel_rfl) (by kernel_rfl)
@[simp] theorem f142 {n : Nat} (h : n * 2 < 140737488355328) : fits Tryd.prog 142 n = true := fits_of (sz := 2) (b := 2) (by kernel_rfl) (by decide) (by decide) h
@[simp] theorem e142 : flat Tryd.prog 142 = some [TypeDesc.int IntKind.u8, TypeDesc.int IntKind.u8] := by kernel_rfl
@[simp] theorem s142 : sized Tryd.prog 142 = true := by kernel_rfl
@[simp] theorem p142_0 : placeOf Tryd.prog 142 0 = some (0, 1) := by kernel_rfl
@[simp] theorem p142_1 : placeOf Tryd.prog 142 1 = some (1, 1) := by kernel_rfl
/-! 143: utf8.acceptRange = unicode/utf8.acceptRange -/
@[simp] theorem u143 : Tryd.prog.underlying 143 = some (TypeDesc.struct #[{ name := "lo", type := 5, offset := 0, embedded := false, tag := "", pkgPath := "unicode/utf8", byteOffset := 0 }, { name := "hi", type := 5, offset := 1, embedded := false, tag := "", pkgPath := "unicode/utf8", byteOffset := 1 }]) := by kernel_rfl
@[simp] theorem z143 : sizeOf? Tryd.prog 143 = some 2 := by kernel_rfl
@[simp] theorem v143 : zeroV Tryd.prog 143 = some [V.int IntKind.u8 0, V.int IntKind.u8 0] := by kernel_rfl
@[simp] theorem g143 (cs : List V) (off : Nat) : getV Tryd.prog 143 cs off = if off + 2 ≤ cs.length then some (.agg ((cs.drop off).take 2)) else none := getV_agg (by kernel_rfl) (by kernel_rfl) (by kernel_rfl)
@[simp] theorem f143 {n : Nat} (h : n * 2 < 140737488355328) : fits Tryd.prog 143 n = true := fits_of (sz := 2) (b := 2) (by kernel_rfl) (by decide) (by decide) h
@[simp] theorem e143 : flat Tryd.prog 143 = some [TypeDesc.int IntKind.u8, TypeDesc.int IntKind.u8] := by kernel_rfl
@[simp] theorem s143 : sized Tryd.prog 143 = true := by kernel_rfl
@[simp] theorem p143_0 : placeOf Tryd.prog 143 0 = some (0, 1) := by kernel_rfl
@[simp] theorem p143_1 : placeOf Tryd.prog 143 1 = some (1, 1) := by kernel_rfl
/-! 144: [16]utf8.acceptRange -/
@[simp] theorem u144 : Tryd.prog.underlying 144 = some (TypeDesc.array 16 143) := by kernel_rfl
@[simp] theorem z144 : sizeOf? Tryd.prog 144 = some 32 := by kernel_rfl
@[simp] theorem v144 : zeroV Tryd.prog 144 = some [V.int IntKind.u8 0, V.int IntKind.u8 0, V.int IntKind.u8 0, V.int IntKind.u8 0, V.int IntKind.u8 0, V.int IntKind.u8 0, V.int IntKind.u8 0, V.int IntKind.u8 0, V.int IntKind.u8 0, V.int IntKind.u8 0, V.int IntKind.u8 0, V.int IntKind.u8 0, V.int IntKind.u8 0, V.int IntKind.u8 0, V.int IntKind.u8 0, V.int IntKind.u8 0, V.int IntKind.u8 0, V.int IntKind.u8 0, V.int IntKind.u8 0, V.int IntKind.u8 0, V.int IntKind.u8 0, V.int IntKind.u8 0, V.int IntKind.u8 0, V.int IntKind.u8 0, V.int IntKind.u8 0, V.int IntKind.u8 0, V.int IntKind.u8 0, V.int IntKind.u8 0, V.int IntKind.u8 0, V.int IntKind.u8 0, V.int IntKind.u8 0, V.int IntKind.u8 0] := by kernel_rfl
@[simp] theorem g144 (cs : List V) (off : Nat) : getV Tryd.prog 144 cs off = if off + 32 ≤ cs.length then some (.agg ((cs.drop off).take 32)) else none := getV_agg (by kernel_rfl) (by kernel_rfl) (by kernel_rfl)
@[simp] theorem f144 {n : Nat} (h : n * 32 < 140737488355328) : fits Tryd.prog 144 n = true := fits_of (sz := 32) (b := 32) (by kernel_rfl) (by decide) (by decide) h
@[simp] theorem s144 : sized Tryd.prog 144 = true := by kernel_rfl
@[simp] theorem p144_0 : placeOf Tryd.prog 144 0 = some (0, 2) := by kernel_rfl
@[simp] theorem p144_1 : placeOf Tryd.prog 144 1 = some (2, 2) := by kernel_rfl
@[simp] theorem p144_2 : placeOf Tryd.prog 144 2 = some (4, 2) := by kernel_rfl
@[simp] theorem p144_3 : placeOf Tryd.prog 144 3 = some (6, 2) := by kernel_rfl
@[simp] theorem p144_4 : placeOf Tryd.prog 144 4 = some (8, 2) := by kernel_rfl
@[simp] theorem p144_5 : placeOf Tryd.prog 144 5 = some (10, 2) := by kernel_rfl
@[simp] theorem p144_6 : placeOf Tryd.prog 144 6 = some (12, 2) := by kernel_rfl
@[simp] theorem p144_7 : placeOf Tryd.prog 144 7 = some (14, 2) := by kernel_rfl
@[simp] theorem p144_8 : placeOf Tryd.prog 144 8 = some (16, 2) := by kernel_rfl
@[simp] theorem p144_9 : placeOf Tryd.prog 144 9 = some (18, 2) := by kernel_rfl
@[simp] theorem p144_10 : placeOf Tryd.prog 144 10 = some (20, 2) := by kernel_rfl
@[simp] theorem p144_11 : placeOf Tryd.prog 144 11 = some (22, 2) := by kernel_rfl
@[simp] theorem p144_12 : placeOf Tryd.prog 144 12 = some (24, 2) := by kernel_rfl
@[simp] theorem p144_13 : placeOf Tryd.prog 144 13 = some (26, 2) := by kernel_rfl
@[simp] theorem p144_14 : placeOf Tryd.prog 144 14 = some (28, 2) := by kernel_rfl
@[simp] theorem p144_15 : placeOf Tryd.prog 144 15 = some (30, 2) := by kernel_rfl
@[simp] theorem p144_16 : placeOf Tryd.prog 144 16 = some (32, 2) := by kernel_rfl
@[simp] theorem p144_17 : placeOf Tryd.prog 144 17 = some (34, 2) := by kernel_rfl
@[simp] theorem p144_18 : placeOf Tryd.prog 144 18 = some (36, 2) := by kernel_rfl
@[simp] theorem p144_19 : placeOf Tryd.prog 144 19 = some (38, 2) := by kernel_rfl
@[simp] theorem p144_20 : placeOf Tryd.prog 144 20 = some (40, 2) := by kernel_rfl
@[simp] theorem p144_21 : placeOf Tryd.prog 144 21 = some (42, 2) := by kernel_rfl
@[simp] theorem p144_22 : placeOf Tryd.prog 144 22 = some (44, 2) := by kernel_rfl
@[simp] theorem p144_23 : placeOf Tryd.prog 144 23 = some (46, 2) := by kernel_rfl
@[simp] theorem p144_24 : placeOf Tryd.prog 144 24 = some (48, 2) := by kernel_rfl
@[simp] theorem p144_25 : placeOf Tryd.prog 144 25 = some (50, 2) := by kernel_rfl
@[simp] theorem p144_26 : placeOf Tryd.prog 144 26 = some (52, 2) := by kernel_rfl
@[simp] theorem p144_27 : placeOf Tryd.prog 144 27 = some (54, 2) := by kernel_rfl
@[simp] theorem p144_28 : placeOf Tryd.prog 144 28 = some (56, 2) := by kernel_rfl
@[simp] theorem p144_29 : placeOf Tryd.prog 144 29 = some (58, 2) := by kernel_rfl
@[simp] theorem p144_30 : placeOf Tryd.prog 144 30 = some (60, 2) := by kernel_rfl
@[simp] theorem p144_31 : placeOf Tryd.prog 144 31 = some (62, 2) := by kernel_rfl
@[simp] theorem p144_32 : placeOf Tryd.prog 144 32 = some (64, 2) := by kernel_rfl
@[simp] theorem p144_33 : placeOf Tryd.prog 144 33 = some (66, 2) := by kernel_rfl
@[simp] theorem p144_34 : placeOf Tryd.prog 144 34 = some (68, 2) := by kernel_rfl
@[simp] theorem p144_35 : placeOf Tryd.prog 144 35 = some (70, 2) := by kernel_rfl
@[simp] theorem p144_36 : placeOf Tryd.prog 144 36 = some (72, 2) := by kernel_rfl
@[simp] theorem p144_37 : placeOf Tryd.prog 144 37 = some (74, 2) := by kernel_rfl
@[simp] theorem p144_38 : placeOf Tryd.prog 144 38 = some (76, 2) := by kernel_rfl
@[simp] theorem p144_39 : placeOf Tryd.prog 144 39 = some (78, 2) := by kernel_rfl
/-! 156: uint32 -/
@[simp] theorem u156 : Tryd.prog.underlying 156 = some (TypeDesc.int IntKind.u32) := by kernel_rfl
@[simp] theorem z156 : sizeOf? Tryd.prog 156 = some 1 := by kernel_rfl
@[simp] theorem v156 : zeroV Tryd.prog 156 = some [V.int IntKind.u32 0] := by kernel_rfl
@[simp] theorem g156 (cs : List V) (off : Nat) : getV Tryd.prog 156 cs off = cs[off]? := getV_flat (by kernel_rfl) (by kernel_rfl)
@[simp] theorem f156 {n : Nat} (h : n * 4 < 140737488355328) : fits Tryd.prog 156 n = true := fits_of (sz := 1) (b := 4) (by kernel_rfl) (by decide) (by decide) h
/-! 160: *uint8 -/
@[simp] theorem u160 : Tryd.prog.underlying 160 = some (TypeDesc.pointer 5) := by kernel_rfl
@[simp] theorem z160 : sizeOf? Tryd.prog 160 = some 1 := by kernel_rfl
@[simp] theorem v160 : zeroV Tryd.prog 160 = some [V.nilp] := by kernel_rfl
@[simp] theorem g160 (cs : List V) (off : Nat) : getV Tryd.prog 160 cs off = cs[off]? := getV_flat (by kernel_rfl) (by kernel_rfl)
@[simp] theorem f160 {n : Nat} (h : n * 8 < 140737488355328) : fits Tryd.prog 160 n = true := fits_of (sz := 1) (b := 8) (by kernel_rfl) (by decide) (by decide) h
/-! 165: unsafe.Pointer -/
@[simp] theorem u165 : Tryd.prog.underlying 165 = some TypeDesc.unsafePointer := by kernel_rfl
@[simp] theorem z165 : sizeOf? Tryd.prog 165 = some 1 := by kernel_rfl
@[simp] theorem v165 : zeroV Tryd.prog 165 = some [V.nilp] := by kernel_rfl
@[simp] theorem g165 (cs : List V) (off : Nat) : getV Tryd.prog 165 cs off = cs[off]? := getV_flat (by kernel_rfl) (by kernel_rfl)
@[simp] theorem f165 {n : Nat} (h : n * 8 < 140737488355328) : fits Tryd.prog 165 n = true := fits_of (sz := 1) (b := 8) (by kernel_rfl) (by decide) (by decide) h
end Go.Proofs.YtnbgmclbbkfhhaaDoor.B
