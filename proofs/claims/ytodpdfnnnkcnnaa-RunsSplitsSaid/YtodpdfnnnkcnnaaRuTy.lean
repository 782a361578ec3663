/- Facts about the types of this program. (Written by types.py.) -/
import Derived.Test.YtodpdfnnnkcnnaaAb24
import Derived.Laws.Closers25b
import Derived.Test.YtodpdfnnnkcnnaaRows
set_option linter.unusedSimpArgs false
set_option linter.unusedVariables false
set_option linter.unusedSectionVars false
set_option maxRecDepth 20000
namespace Go.Proofs.Ytodpdfnnnkcnnaa.B
open Go Go.Ab
/-! 2: int64 -/
@[simp] theorem u2 : Try.prog.underlying 2 = some (TypeDesc.int IntKind.i64) := by kernel_rfl
@[simp] theorem z2 : sizeOf? Try.prog 2 = some 1 := by kernel_rfl
@[simp] theorem v2 : zeroV Try.prog 2 = some [V.int IntKind.i64 0] := by kernel_rfl
@[simp] theorem g2 (cs : List V) (off : Nat) : getV Try.prog 2 cs off = cs[off]? := getV_flat (by kernel_rfl) (by kernel_rfl)
@[simp] theorem f2 {n : Nat} (h : n * 8 < 140737488355328) : fits Try.prog 2 n = true := fits_of (sz := 1) (b := 8) (by kernel_rfl) (by decide) (by decide) h
/-! 3: int -/
@[simp] theorem u3 : Try.prog.underlying 3 = some (TypeDesc.int IntKind.i64) := by kernel_rfl
@[simp] theorem z3 : sizeOf? Try.prog 3 = some 1 := by kernel_rfl
@[simp] theorem v3 : zeroV Try.prog 3 = some [V.int IntKind.i64 0] := by kernel_rfl
@[simp] theorem g3 (cs : List V) (off : Nat) : getV Try.prog 3 cs off = cs[off]? := getV_flat (by kernel_rfl) (by kernel_rfl)
@[simp] theorem f3 {n : Nat} (h : n * 8 < 140737488355328) : fits Try.prog 3 n = true := fits_of (sz := 1) (b := 8) (by kernel_rfl) (by decide) (by decide) h
/-! 4: bool -/
@[simp] theorem u4 : Try.prog.underlying 4 = some TypeDesc.bool := by kernel_rfl
@[simp] theorem z4 : sizeOf? Try.prog 4 = some 1 := by kernel_rfl
@[simp] theorem v4 : zeroV Try.prog 4 = some [V.bool false] := by kernel_rfl
@[simp] theorem g4 (cs : List V) (off : Nat) : getV Try.prog 4 cs off = cs[off]? := getV_flat (by kernel_rfl) (by kernel_rfl)
@[simp] theorem f4 {n : Nat} (h : n * 1 < 140737488355328) : fits Try.prog 4 n = true := fits_of (sz := 1) (b := 1) (by kernel_rfl) (by decide) (by decide) h
/-! 5: uint8 -/
@[simp] theorem u5 : Try.prog.underlying 5 = some (TypeDesc.int IntKind.u8) := by kernel_rfl
@[simp] theorem z5 : sizeOf? Try.prog 5 = some 1 := by kernel_rfl
@[simp] theorem v5 : zeroV Try.prog 5 = some [V.int IntKind.u8 0] := by kernel_rfl
@[simp] theorem g5 (cs : List V) (off : Nat) : getV Try.prog 5 cs off = cs[off]? := getV_flat (by kernel_rfl) (by kernel_rfl)
@[simp] theorem f5 {n : Nat} (h : n * 1 < 140737488355328) : fits Try.prog 5 n = true := fits_of (sz := 1) (b := 1) (by kernel_rfl) (by decide) (by decide) h
/-! 9: string -/
@[simp] theorem u9 : Try.prog.underlying 9 = some TypeDesc.string := by kernel_rfl
@[simp] theorem z9 : sizeOf? Try.prog 9 = some 1 := by kernel_rfl
@[simp] theorem v9 : zeroV Try.prog 9 = some [V.str { data := #[] }] := by kernel_rfl
@[simp] theorem g9 (cs : List V) (off : Nat) : getV Try.prog 9 cs off = cs[off]? := getV_flat (by kernel_rfl) (by kernel_rfl)
@[simp] theorem f9 {n : Nat} (h : n * 16 < 140737488355328) : fits Try.prog 9 n = true := fits_of (sz := 1) (b := 16) (by kernel_rfl) (by decide) (by decide) h
/-! 12: uintptr -/
@[simp] theorem u12 : Try.prog.underlying 12 = some (TypeDesc.int IntKind.u64) := by kernel_rfl
@[simp] theorem z12 : sizeOf? Try.prog 12 = some 1 := by kernel_rfl
@[simp] theorem v12 : zeroV Try.prog 12 = some [V.int IntKind.u64 0] := by kernel_rfl
@[simp] theorem g12 (cs : List V) (off : Nat) : getV Try.prog 12 cs off = cs[off]? := getV_flat (by kernel_rfl) (by kernel_rfl)
@[simp] theorem f12 {n : Nat} (h : n * 8 < 140737488355328) : fits Try.prog 12 n = true := fits_of (sz := 1) (b := 8) (by kernel_rfl) (by decide) (by decide) h
/-! 13: struct ( msg string; addr uintptr ) -/
@[simp] theorem u13 : Try.prog.underlying 13 = some (TypeDesc.struct #[{ name := "msg", type := 9, offset := 0, embedded := false, tag := "", pkgPath := "runtime", byteOffset := 0 }, { name := "addr", type := 12, offset := 1, embedded := false, tag := "", pkgPath := "runtime", byteOffset := 16 }]) := by kernel_rfl
@[simp] theorem z13 : sizeOf? Try.prog 13 = some 2 := by kernel_rfl
@[simp] theorem v13 : zeroV Try.prog 13 = some [V.str { data := #[] }, V.int IntKind.u64 0] := by kernel_rfl
@[simp] theorem g13 (cs : List V) (off : Nat) : getV Try.prog 13 cs off = if off + 2 ≤ cs.length then some (.agg ((cs.drop off).take 2)) else none := getV_agg (by kernel_rfl) (by kernel_rfl) (by kernel_rfl)
@[simp] theorem f13 {n : Nat} (h : n * 24 < 140737488355328) : fits Try.prog 13 n = true := fits_of (sz := 2) (b := 24) (by kernel_rfl) (by decide) (by decide) h
@[simp] theorem s13 : sized Try.prog 13 = true := by kernel_rfl
@[simp] theorem p13_0 : placeOf Try.prog 13 0 = some (0, 1) := by kernel_rfl
@[simp] theorem p13_1 : placeOf Try.prog 13 1 = some (1, 1) := by kernel_rfl
/-! 21: int32 -/
@[simp] theorem u21 : Try.prog.underlying 21 = some (TypeDesc.int IntKind.i32) := by kernel_rfl
@[simp] theorem z21 : sizeOf? Try.prog 21 = some 1 := by kernel_rfl
@[simp] theorem v21 : zeroV Try.prog 21 = some [V.int IntKind.i32 0] := by kernel_rfl
@[simp] theorem g21 (cs : List V) (off : Nat) : getV Try.prog 21 cs off = cs[off]? := getV_flat (by kernel_rfl) (by kernel_rfl)
@[simp] theorem f21 {n : Nat} (h : n * 4 < 140737488355328) : fits Try.prog 21 n = true := fits_of (sz := 1) (b := 4) (by kernel_rfl) (by decide) (by decide) h
/-! 22: []int64 -/
@[simp] theorem u22 : Try.prog.underlying 22 = some (TypeDesc.slice 2) := by kernel_rfl
@[simp] theorem z22 : sizeOf? Try.prog 22 = some 1 := by kernel_rfl
@[simp] theorem v22 : zeroV Try.prog 22 = some [V.nils] := by kernel_rfl
@[simp] theorem g22 (cs : List V) (off : Nat) : getV Try.prog 22 cs off = cs[off]? := getV_flat (by kernel_rfl) (by kernel_rfl)
@[simp] theorem f22 {n : Nat} (h : n * 24 < 140737488355328) : fits Try.prog 22 n = true := fits_of (sz := 1) (b := 24) (by kernel_rfl) (by decide) (by decide) h
/-! 25: []api.Run -/
@[simp] theorem u25 : Try.prog.underlying 25 = some (TypeDesc.slice 33) := by kernel_rfl
@[simp] theorem z25 : sizeOf? Try.prog 25 = some 1 := by kernel_rfl
@[simp] theorem v25 : zeroV Try.prog 25 = some [V.nils] := by kernel_rfl
@[simp] theorem g25 (cs : List V) (off : Nat) : getV Try.prog 25 cs off = cs[off]? := getV_flat (by kernel_rfl) (by kernel_rfl)
@[simp] theorem f25 {n : Nat} (h : n * 24 < 140737488355328) : fits Try.prog 25 n = true := fits_of (sz := 1) (b := 24) (by kernel_rfl) (by decide) (by decide) h
/-! 26: api.Errno = stoa/api.Errno -/
@[simp] theorem u26 : Try.prog.underlying 26 = some (TypeDesc.int IntKind.i64) := by kernel_rfl
@[simp] theorem z26 : sizeOf? Try.prog 26 = some 1 := by kernel_rfl
@[simp] theorem v26 : zeroV Try.prog 26 = some [V.int IntKind.i64 0] := by kernel_rfl
@[simp] theorem g26 (cs : List V) (off : Nat) : getV Try.prog 26 cs off = cs[off]? := getV_flat (by kernel_rfl) (by kernel_rfl)
@[simp] theorem f26 {n : Nat} (h : n * 8 < 140737488355328) : fits Try.prog 26 n = true := fits_of (sz := 1) (b := 8) (by kernel_rfl) (by decide) (by decide) h
/-! 32: struct ( Value int64; Count int ) -/
@[simp] theorem u32 : Try.prog.underlying 32 = some (TypeDesc.struct #[{ name := "Value", type := 2, offset := 0, embedded := false, tag := "", pkgPath := "", byteOffset := 0 }, { name := "Count", type := 3, offset := 1, embedded := false, tag := "", pkgPath := "", byteOffset := 8 }]) := by kernel_rfl
@[simp] theorem z32 : sizeOf? Try.prog 32 = some 2 := by kernel_rfl
@[simp] theorem v32 : zeroV Try.prog 32 = some [V.int IntKind.i64 0, V.int IntKind.i64 0] := by kernel_rfl
@[simp] theorem g32 (cs : List V) (off : Nat) : getV Try.prog 32 cs off = if off + 2 ≤ cs.length then some (.agg ((cs.drop off).take 2)) else none := getV_agg (by kernel_rfl) (by kernel_rfl) (by kernel_rfl)
@[simp] theorem f32 {n : Nat} (h : n * 16 < 140737488355328) : fits Try.prog 32 n = true := fits_of (sz := 2) (b := 16) (by kernel_rfl) (by decide) (by decide) h
@[simp] theorem e32 : flat Try.prog 32 = some [TypeDesc.int IntKind.i64, TypeDesc.int IntKind.i64] := by kernel_rfl
@[simp] theorem s32 : sized Try.prog 32 = true := by kernel_rfl
@[simp] theorem p32_0 : placeOf Try.prog 32 0 = some (0, 1) := by kernel_rfl
@[simp] theorem p32_1 : placeOf Try.prog 32 1 = some (1, 1) := by kernel_rfl
/-! 33: api.Run = stoa/api.Run -/
@[simp] theorem u33 : Try.prog.underlying 33 = some (TypeDesc.struct #[{ name := "Value", type := 2, offset := 0, embedded := false, tag := "", pkgPath := "", byteOffset := 0 }, { name := "Count", type := 3, offset := 1, embedded := false, tag := "", pkgPath := "", byteOffset := 8 }]) := by kernel_rfl
@[simp] theorem z33 : sizeOf? Try.prog 33 = some 2 := by kernel_rfl
@[simp] theorem v33 : zeroV Try.prog 33 = some [V.int IntKind.i64 0, V.int IntKind.i64 0] := by kernel_rfl
@[simp] theorem g33 (cs : List V) (off : Nat) : getV Try.prog 33 cs off = if off + 2 ≤ cs.length then some (.agg ((cs.drop off).take 2)) else none := getV_agg (by kernel_rfl) (by kernel_rfl) (by kernel_rfl)
@[simp] theorem f33 {n : Nat} (h : n * 16 < 140737488355328) : fits Try.prog 33 n = true := fits_of (sz := 2) (b := 16) (by kernel_rfl) (by decide) (by decide) h
@[simp] theorem e33 : flat Try.prog 33 = some [TypeDesc.int IntKind.i64, TypeDesc.int IntKind.i64] := by kernel_rfl
@[simp] theorem s33 : sized Try.prog 33 = true := by kernel_rfl
@[simp] theorem p33_0 : placeOf Try.prog 33 0 = some (0, 1) := by kernel_rfl
@[simp] theorem p33_1 : placeOf Try.prog 33 1 = some (1, 1) := by kernel_rfl
/-! 34: []uint8 -/
@[simp] theorem u34 : Try.prog.underlying 34 = some (TypeDesc.slice 5) := by kernel_rfl
@[simp] theorem z34 : sizeOf? Try.prog 34 = some 1 := by kernel_rfl
@[simp] theorem v34 : zeroV Try.prog 34 = some [V.nils] := by kernel_rfl
@[simp] theorem g34 (cs : List V) (off : Nat) : getV Try.prog 34 cs off = cs[off]? := getV_flat (by kernel_rfl) (by kernel_rfl)
@[simp] theorem f34 {n : Nat} (h : n * 24 < 140737488355328) : fits Try.prog 34 n = true := fits_of (sz := 1) (b := 24) (by kernel_rfl) (by decide) (by decide) h
/-! 56: uint64 -/
@[simp] theorem u56 : Try.prog.underlying 56 = some (TypeDesc.int IntKind.u64) := by kernel_rfl
@[simp] theorem z56 : sizeOf? Try.prog 56 = some 1 := by kernel_rfl
@[simp] theorem v56 : zeroV Try.prog 56 = some [V.int IntKind.u64 0] := by kernel_rfl
@[simp] theorem g56 (cs : List V) (off : Nat) : getV Try.prog 56 cs off = cs[off]? := getV_flat (by kernel_rfl) (by kernel_rfl)
@[simp] theorem f56 {n : Nat} (h : n * 8 < 140737488355328) : fits Try.prog 56 n = true := fits_of (sz := 1) (b := 8) (by kernel_rfl) (by decide) (by decide) h
/-! 59: struct ( out []int64 ) -/
@[simp] theorem u59 : Try.prog.underlying 59 = some (TypeDesc.struct #[{ name := "out", type := 22, offset := 0, embedded := false, tag := "", pkgPath := "stoa/runs", byteOffset := 0 }]) := by kernel_rfl
@[simp] theorem z59 : sizeOf? Try.prog 59 = some 1 := by kernel_rfl
@[simp] theorem v59 : zeroV Try.prog 59 = some [V.nils] := by kernel_rfl
@[simp] theorem g59 (cs : List V) (off : Nat) : getV Try.prog 59 cs off = if off + 1 ≤ cs.length then some (.agg ((cs.drop off).take 1)) else none := getV_agg (by kernel_rfl) (by kernel_rfl) (by kernel_rfl)
@[simp] theorem f59 {n : Nat} (h : n * 24 < 140737488355328) : fits Try.prog 59 n = true := fits_of (sz := 1) (b := 24) (by kernel_rfl) (by decide) (by decide) h
@[simp] theorem s59 : sized Try.prog 59 = true := by kernel_rfl
@[simp] theorem p59_0 : placeOf Try.prog 59 0 = some (0, 1) := by kernel_rfl
/-! 60: runs.joiner = stoa/runs.joiner -/
@[simp] theorem u60 : Try.prog.underlying 60 = some (TypeDesc.struct #[{ name := "out", type := 22, offset := 0, embedded := false, tag := "", pkgPath := "stoa/runs", byteOffset := 0 }]) := by kernel_rfl
@[simp] theorem z60 : sizeOf? Try.prog 60 = some 1 := by kernel_rfl
@[simp] theorem v60 : zeroV Try.prog 60 = some [V.nils] := by kernel_rfl
@[simp] theorem g60 (cs : List V) (off : Nat) : getV Try.prog 60 cs off = if off + 1 ≤ cs.length then some (.agg ((cs.drop off).take 1)) else none := getV_agg (by kernel_rfl) (by kernel_rfl) (by kernel_rfl)
@[simp] theorem f60 {n : Nat} (h : n * 24 < 140737488355328) : fits Try.prog 60 n = true := fits_of (sz := 1) (b := 24) (by kernel_rfl) (by decide) (by decide) h
@[simp] theorem s60 : sized Try.prog 60 = true := by kernel_rfl
@[simp] theorem p60_0 : placeOf Try.prog 60 0 = some (0, 1) := by kernel_rfl
/-! 67: uint -/
@[simp] theorem u67 : Try.prog.underlying 67 = some (TypeDesc.int IntKind.u64) := by kernel_rfl
@[simp] theorem z67 : sizeOf? Try.prog 67 = some 1 := by kernel_rfl
@[simp] theorem v67 : zeroV Try.prog 67 = some [V.int IntKind.u64 0] := by kernel_rfl
@[simp] theorem g67 (cs : List V) (off : Nat) : getV Try.prog 67 cs off = cs[off]? := getV_flat (by kernel_rfl) (by kernel_rfl)
@[simp] theorem f67 {n : Nat} (h : n * 8 < 140737488355328) : fits Try.prog 67 n = true := fits_of (sz := 1) (b := 8) (by kernel_rfl) (by decide) (by decide) h
/-! 68: *runs.joiner -/
@[simp] theorem u68 : Try.prog.underlying 68 = some (TypeDesc.pointer 60) := by kernel_rfl
@[simp] theorem z68 : sizeOf? Try.prog 68 = some 1 := by kernel_rfl
@[simp] theorem v68 : zeroV Try.prog 68 = some [V.nilp] := by kernel_rfl
@[simp] theorem g68 (cs : List V) (off : Nat) : getV Try.prog 68 cs off = cs[off]? := getV_flat (by kernel_rfl) (by kernel_rfl)
@[simp] theorem f68 {n : Nat} (h : n * 8 < 140737488355328) : fits Try.prog 68 n = true := fits_of (sz := 1) (b := 8) (by kernel_rfl) (by decide) (by decide) h
/-! 76: uint32 -/
@[simp] theorem u76 : Try.prog.underlying 76 = some (TypeDesc.int IntKind.u32) := by kernel_rfl
@[simp] theorem z76 : sizeOf? Try.prog 76 = some 1 := by kernel_rfl
@[simp] theorem v76 : zeroV Try.prog 76 = some [V.int IntKind.u32 0] := by kernel_rfl
@[simp] theorem g76 (cs : List V) (off : Nat) : getV Try.prog 76 cs off = cs[off]? := getV_flat (by kernel_rfl) (by kernel_rfl)
@[simp] theorem f76 {n : Nat} (h : n * 4 < 140737488355328) : fits Try.prog 76 n = true := fits_of (sz := 1) (b := 4) (by kernel_rfl) (by decide) (by decide) h
/-! 80: *uint8 -/
@[simp] theorem u80 : Try.prog.underlying 80 = some (TypeDesc.pointer 5) := by kernel_rfl
@[simp] theorem z80 : sizeOf? Try.prog 80 = some 1 := by kernel_rfl
@[simp] theorem v80 : zeroV Try.prog 80 = some [V.nilp] := by kernel_rfl
@[simp] theorem g80 (cs : List V) (off : Nat) : getV Try.prog 80 cs off = cs[off]? := getV_flat (by kernel_rfl) (by kernel_rfl)
@[simp] theorem f80 {n : Nat} (h : n * 8 < 140737488355328) : fits Try.prog 80 n = true := fits_of (sz := 1) (b := 8) (by kernel_rfl) (by decide) (by decide) h
/-! 85: unsafe.Pointer -/
@[simp] theorem u85 : Try.prog.underlying 85 = some TypeDesc.unsafePointer := by kernel_rfl
@[simp] theorem z85 : sizeOf? Try.prog 85 = some 1 := by kernel_rfl
@[simp] theorem v85 : zeroV Try.prog 85 = some [V.nilp] := by kernel_rfl
@[simp] theorem g85 (cs : List V) (off : Nat) : getV Try.prog 85 cs off = cs[off]? := getV_flat (by kernel_rfl) (by kernel_rfl)
@[simp] theorem f85 {n : Nat} (h : n * 8 < 140737488355328) : fits Try.prog 85 n = true := fits_of (sz := 1) (b := 8) (by kernel_rfl) (by decide) (by decide) h
end Go.Proofs.Ytodpdfnnnkcnnaa.B
