import Derived.Test.YtnbgmclbbkfhhaaDoorScA
set_option linter.unusedSimpArgs false
set_option linter.unusedVariables false
set_option linter.unusedSectionVars false
set_option maxRecDepth 20000
set_option maxHeartbeats 1000000
namespace Go.Proofs.YtnbgmclbbkfhhaaDoor.B
open Go Go.Ab
/-! one value of a table: kinds, what they hold, texts -/
def holdsR (kind v : Int) : Bool :=
  if kind = 1 then decide (-128 ≤ v ∧ v ≤ 127) else if kind = 2 then decide (-32768 ≤ v ∧ v ≤ 32767) else if kind = 3 then decide (-2147483648 ≤ v ∧ v ≤ 2147483647)
  else if kind = 4 then true else if kind = 5 then decide (0 ≤ v ∧ v ≤ 65535) else decide (0 ≤ v ∧ v ≤ 1)
def zeroIn (b : List Int) : Bool := b.contains 0
def textR (kind : Int) (b : List Int) : Int := if b.length > 200 then 4 else if kind = 7 ∧ zeroIn b = true then 5 else 0
def idxB (b : List Int) (x : Int) : Int := Lib.indexByte (Lib.bytesOf b) x.toNat.toUInt8
theorem zero_in : ∀ {l : List Int}, (∀ c ∈ l, 0 ≤ c ∧ c < 256) → (0 ≤ idxB l 0 ↔ zeroIn l = true)
  | [], _ => by simp [idxB, Lib.bytesOf, Lib.indexByte, zeroIn]
  | x :: l, h => by
    have hx := h x List.mem_cons_self
    have ih := zero_in (l := l) (fun y hy => h y (List.mem_cons_of_mem _ hy))
    unfold idxB zeroIn at ih ⊢
    have hge := Lib.indexByte_ge (Lib.bytesOf l) (0 : Int).toNat.toUInt8
    have hb : Lib.bytesOf (x :: l) = UInt8.ofNat x.toNat :: Lib.bytesOf l := rfl
    rw [hb, Lib.indexByte]
    by_cases h0 : x = 0
    · subst h0; simp
    · have hne : (UInt8.ofNat x.toNat == (0 : Int).toNat.toUInt8) = false := by
        rw [beq_eq_false_iff_ne]
        intro he
        have := congrArg UInt8.toNat he
        simp only [UInt8.toNat_ofNat', Int.toNat_zero] at this
        have h2 : x.toNat % 2 ^ 8 = x.toNat := Nat.mod_eq_of_lt (by omega)
        rw [h2] at this
        have h3 : ((0 : Nat).toUInt8).toNat = 0 := rfl
        omega
      rw [hne]
      have hc : (x :: l).contains 0 = l.contains 0 := by simp [Ne.symm h0]
      rw [hc]
      simp only [Bool.false_eq_true, if_false]
      by_cases hm : Lib.indexByte (Lib.bytesOf l) (0 : Int).toNat.toUInt8 = -1
      · rw [hm] at ih ⊢
        rw [if_pos (by rfl)]
        exact ih
      · have hn : (Lib.indexByte (Lib.bytesOf l) (0 : Int).toNat.toUInt8 == -1) = false := by rw [beq_eq_false_iff_ne]; exact hm
        rw [hn]
        simp only [Bool.false_eq_true, if_false]
        constructor
        · intro _; exact ih.1 (by omega)
        · intro _; omega
def numB (k : Int) : Bool := decide (1 ≤ k ∧ k ≤ 6)
noncomputable def k_Number : Ab.Spec := con1 (ofInt .i64) fun k _ => some (.bool (numB k), none)
noncomputable def T_Number : CallF := withF T_CloneR 75 k_Number
theorem T_Number_ok : CallOk Tryd.prog T_Number := con_of (A := annOf [] [] [] false []) fit T_CloneR_ok (fn := Tryd.f75) (by kernel_rfl) (by kernel_rfl) (by
  intro args objs r h0
  obtain ⟨_, k, rfl, hb, hR⟩ := con1_inv h0
  obtain rfl := ofInt_inv hb
  cases hR
  refine .go _ rfl rfl ?_
  by_cases h1 : 1 ≤ k
  · by_cases h2 : k ≤ 6
    · have e : numB k = true := decide_eq_true ⟨h1, h2⟩
      simp [h1, h2, e]
    · have e : numB k = false := decide_eq_false fun q => h2 q.2
      simp [h1, h2, e]
  · have e : numB k = false := decide_eq_false fun q => h1 q.1
    simp [h1, e])
def knownB (k : Int) : Bool := decide (1 ≤ k ∧ k ≤ 8)
noncomputable def k_known : Ab.Spec := con1 (ofInt .i64) fun k _ => some (.bool (knownB k), none)
noncomputable def T_known : CallF := withF T_Number 74 k_known
theorem T_known_ok : CallOk Tryd.prog T_known := con_of (A := annOf [] [] [] false []) fit T_Number_ok (fn := Tryd.f74) (by kernel_rfl) (by kernel_rfl) (by
  intro args objs r h0
  obtain ⟨_, k, rfl, hb, hR⟩ := con1_inv h0
  obtain rfl := ofInt_inv hb
  cases hR
  refine .go _ rfl rfl ?_
  by_cases h1 : 1 ≤ k
  · by_cases h2 : k ≤ 8
    · have e : knownB k = true := decide_eq_true ⟨h1, h2⟩
      simp [h1, h2, e]
    · have e : knownB k = false := decide_eq_false fun q => h2 q.2
      simp [h1, h2, e]
  · have e : knownB k = false := decide_eq_false fun q => h1 q.1
    simp [h1, e])
noncomputable def k_bIndexByte : Ab.Spec := con2 some (ofInt .u8) fun v x objs => match ofIntsR .u8 objs v with | some a => some (.int .i64 (idxB a x), none) | _ => none
noncomputable def T_bIndexByte : CallF := withF T_known 101 k_bIndexByte
theorem T_bIndexByte_ok : CallOk Tryd.prog T_bIndexByte := con_ext Extern.BytealgIndexByte.indexByte T_known_ok (fn := Tryd.f101) (by kernel_rfl) (by kernel_rfl) rfl (by kernel_rfl) (by kernel_rfl) (by
  intro args objs r h0
  obtain ⟨v, _, _, x, rfl, hv, hx, hR⟩ := con2_inv h0
  cases hv
  obtain rfl := ofInt_inv hx
  split at hR
  case h_2 => cases hR
  rename_i a ha
  cases hR
  refine ⟨rfl, rfl, fun G w1 cargs hs hA => ?_⟩
  obtain ⟨x1, y, hxy⟩ : ∃ x y, cargs = #[x, y] := by
    have hl := hA.len
    match cargs, hl with
    | ⟨[x, y]⟩, _ => exact ⟨x, y, rfl⟩
  subst hxy
  obtain ⟨⟨vx, -⟩, ⟨vy, -⟩, -⟩ := hA
  have h1 := read_bytes (P := Tryd.prog) hs vx ha
  refine ⟨.int .i64 (idxB a x), ?_, .int⟩
  cases vy
  have hS := Lib.run_indexByteString (P := Tryd.prog) ⟨(Lib.bytesOf a).toArray⟩ x w1
  change Sem.run Tryd.prog (do
    let b ← Extern.Bytes.bytesOf x1
    let c ← Extern.Bytes.asByte (.int .u8 x)
    match (List.range b.size).find? fun i => b[i]! == c with
    | some i => pure (goInt i)
    | none => pure (goInt (-1))) w1 = _
  change Sem.run Tryd.prog (do
    let b ← Extern.Bytes.bytesOf (.string ⟨(Lib.bytesOf a).toArray⟩)
    let c ← Extern.Bytes.asByte (.int .u8 x)
    match (List.range b.size).find? fun i => b[i]! == c with
    | some i => pure (goInt i)
    | none => pure (goInt (-1))) w1 = _ at hS
  simp only [Extern.Bytes.bytesOf, Sem.run_bind, Sem.run_pure, Result.andThen] at hS
  simp only [Sem.run_bind, Sem.run_pure, h1, Result.andThen]
  exact hS)
noncomputable def k_IndexByte : Ab.Spec := con2 some (ofInt .u8) fun v x objs => match ofIntsR .u8 objs v with | some a => some (.int .i64 (idxB a x), none) | _ => none
noncomputable def T_IndexByte : CallF := withF T_bIndexByte 93 k_IndexByte
theorem T_IndexByte_ok : CallOk Tryd.prog T_IndexByte := con_of (A := annOf [] [] [] false []) fit T_bIndexByte_ok (fn := Tryd.f93) (by kernel_rfl) (by kernel_rfl) (by
  intro args objs r h0
  have c_bIndexByte : ∀ a o, T_bIndexByte 101 a o = k_bIndexByte a o := fun _ _ => rfl
  obtain ⟨v, _, _, x, rfl, hv, hx, hR⟩ := con2_inv h0
  cases hv
  obtain rfl := ofInt_inv hx
  split at hR
  case h_2 => cases hR
  rename_i a ha
  cases hR
  obtain ⟨_, vd, -⟩ := bsR ha
  refine .go _ rfl rfl ?_
  simp -implicitDefEqProofs [vd, c_bIndexByte, k_bIndexByte, ha])
noncomputable def k_ctext : Ab.Spec := con2 (ofInt .i64) some fun k v objs => match ofIntsR .u8 objs v with | some a => bnd a.length 140737488355328 (if b8 a = true then some (.int .i64 (textR k a), none) else none) | _ => none
noncomputable def T_ctext : CallF := withF T_IndexByte 76 k_ctext
theorem T_ctext_ok : CallOk Tryd.prog T_ctext := con_of (A := annOf [] [] [] false []) fit T_IndexByte_ok (fn := Tryd.f76) (by kernel_rfl) (by kernel_rfl) (by
  intro args objs r h0
  have c_IndexByte : ∀ a o, T_IndexByte 93 a o = k_IndexByte a o := fun _ _ => rfl
  obtain ⟨_, v, k, _, rfl, hk, hv, hR⟩ := con2_inv h0
  cases hv
  obtain rfl := ofInt_inv hk
  split at hR
  case h_2 => cases hR
  rename_i a ha
  obtain ⟨hl, hR⟩ := bnd_inv hR
  split at hR
  case isFalse => cases hR
  rename_i h8
  cases hR
  obtain ⟨_, vd, vn, -⟩ := bsR ha
  have hz := zero_in (b8_iff.1 h8)
  refine .go _ rfl rfl ?_
  by_cases h1 : a.length > 200
  · have ht : textR k a = 4 := if_pos h1
    simp -implicitDefEqProofs (disch := omega) [vn, h1, ht]
  by_cases h7 : k = 7
  · subst h7
    by_cases hc : zeroIn a = true
    · have ht : textR 7 a = 5 := by unfold textR; rw [if_neg h1, if_pos ⟨rfl, hc⟩]
      have hi := hz.2 hc
      simp -implicitDefEqProofs (disch := omega) [vd, vn, h1, ht, c_IndexByte, k_IndexByte, ha, hi]
    · have ht : textR 7 a = 0 := by unfold textR; rw [if_neg h1, if_neg (fun q => hc q.2)]
      have hi : ¬ 0 ≤ idxB a 0 := fun q => hc (hz.1 q)
      simp -implicitDefEqProofs (disch := omega) [vd, vn, h1, ht, c_IndexByte, k_IndexByte, ha, hi]
  · have ht : textR k a = 0 := by unfold textR; rw [if_neg h1, if_neg (fun q => h7 q.1)]
    simp -implicitDefEqProofs (disch := omega) [vd, vn, h1, ht, h7])
def i64B (v : Int) : Bool := decide (-9223372036854775808 ≤ v) && decide (v < 9223372036854775808)
theorem i64B_iff {v : Int} : i64B v = true ↔ -9223372036854775808 ≤ v ∧ v < 9223372036854775808 := by simp [i64B]
def narrowR (v size : Int) : Int :=
  if size = 1 then (v + 128) % 256 - 128 else if size = 2 then (v + 32768) % 65536 - 32768 else if size = 4 then (v + 2147483648) % 4294967296 - 2147483648 else v
theorem i8r (x : Int) : IntKind.i8.wrap x = (x + 128) % 256 - 128 := by
  simp only [IntKind.wrap, IntKind.bits, IntKind.signed]; simp; split <;> omega
theorem i16r (x : Int) : IntKind.i16.wrap x = (x + 32768) % 65536 - 32768 := by
  simp only [IntKind.wrap, IntKind.bits, IntKind.signed]; simp; split <;> omega
theorem i32r (x : Int) : IntKind.i32.wrap x = (x + 2147483648) % 4294967296 - 2147483648 := by
  simp only [IntKind.wrap, IntKind.bits, IntKind.signed]; simp; split <;> omega
theorem u16r (x : Int) : IntKind.u16.wrap x = x % 65536 := by
  simp only [IntKind.wrap, IntKind.bits, IntKind.signed]; simp
noncomputable def k_Narrow : Ab.Spec := con2 (ofInt .i64) (ofInt .i64) fun v s _ => if i64B v = true ∧ (s = 1 ∨ s = 2 ∨ s = 4 ∨ s = 8) then some (.tup [.int .i64 (narrowR v s), .bool (decide (narrowR v s = v))], none) else none
noncomputable def T_Narrow : CallF := withF T_ctext 94 k_Narrow
theorem T_Narrow_ok : CallOk Tryd.prog T_Narrow := con_of (A := annOf [] [] [] false []) fit T_ctext_ok (fn := Tryd.f94) (by kernel_rfl) (by kernel_rfl) (by
  intro args objs r h0
  obtain ⟨_, _, v, s, rfl, hv, hs, hR⟩ := con2_inv h0
  obtain rfl := ofInt_inv hv
  obtain rfl := ofInt_inv hs
  split at hR
  case isFalse => cases hR
  rename_i hc
  obtain ⟨h1, h2⟩ := hc
  cases hR
  obtain ⟨v0, v1⟩ := i64B_iff.1 h1
  refine .go _ rfl rfl ?_
  obtain ⟨x, hx⟩ : ∃ x, x = narrowR v s := ⟨_, rfl⟩
  have hd : (x == v) = decide (x = v) := rfl
  rcases h2 with rfl | rfl | rfl | rfl
  · have e : x = (v + 128) % 256 - 128 := hx
    have e1 : IntKind.i8.wrap v = x := by rw [e]; exact i8r v
    have e2 : IntKind.i64.wrap x = x := wrap_small (by omega) (by omega)
    rw [← hx]
    simp -implicitDefEqProofs [convV, e1, e2, hd]
  · have e : x = (v + 32768) % 65536 - 32768 := hx
    have e1 : IntKind.i16.wrap v = x := by rw [e]; exact i16r v
    have e2 : IntKind.i64.wrap x = x := wrap_small (by omega) (by omega)
    rw [← hx]
    simp -implicitDefEqProofs [convV, e1, e2, hd]
  · have e : x = (v + 2147483648) % 4294967296 - 2147483648 := hx
    have e1 : IntKind.i32.wrap v = x := by rw [e]; exact i32r v
    have e2 : IntKind.i64.wrap x = x := wrap_small (by omega) (by omega)
    rw [← hx]
    simp -implicitDefEqProofs [convV, e1, e2, hd]
  · have e : x = v := hx
    rw [← hx, e]
    simp -implicitDefEqProofs [convV])
noncomputable def k_holds : Ab.Spec := con2 (ofInt .i64) (ofInt .i64) fun k v _ => if i64B v = true ∧ 1 ≤ k ∧ k ≤ 6 then some (.bool (holdsR k v), none) else none
noncomputable def T_holds : CallF := withF T_Narrow 77 k_holds
theorem T_holds_ok : CallOk Tryd.prog T_holds := con_of (A := annOf [] [] [] false []) fit T_Narrow_ok (fn := Tryd.f77) (by kernel_rfl) (by kernel_rfl) (by
  intro args objs r h0
  have c_Narrow : ∀ a o, T_Narrow 94 a o = k_Narrow a o := fun _ _ => rfl
  obtain ⟨_, _, k, v, rfl, hk, hv, hR⟩ := con2_inv h0
  obtain rfl := ofInt_inv hk
  obtain rfl := ofInt_inv hv
  split at hR
  case isFalse => cases hR
  rename_i hc
  obtain ⟨h1, h2, h3⟩ := hc
  cases hR
  obtain ⟨v0, v1⟩ := i64B_iff.1 h1
  refine .go _ rfl rfl ?_
  have a0 : IntKind.i64.wrap 0 = 0 := rfl
  have a1 : IntKind.i64.wrap 1 = 1 := rfl
  have a2 : IntKind.i64.wrap 2 = 2 := rfl
  have a3 : IntKind.i64.wrap 3 = 3 := rfl
  have a4 : IntKind.i64.wrap 4 = 4 := rfl
  have a8 : IntKind.i64.wrap 8 = 8 := rfl
  have b0 : IntKind.u64.wrap 0 = 0 := rfl
  have b1 : IntKind.u64.wrap 1 = 1 := rfl
  have b2 : IntKind.u64.wrap 2 = 2 := rfl
  have b3 : IntKind.u64.wrap 3 = 3 := rfl
  obtain rfl | rfl | rfl | rfl | rfl | rfl : k = 1 ∨ k = 2 ∨ k = 3 ∨ k = 4 ∨ k = 5 ∨ k = 6 := by omega
  · have e : decide (narrowR v 1 = v) = holdsR 1 v := decide_eq_decide.2 (by show (v + 128) % 256 - 128 = v ↔ _; omega)
    simp -implicitDefEqProofs [convV, c_Narrow, k_Narrow, h1, e, a0, a1, a2, a3, a4, a8, b0, b1, b2, b3]
  · have e : decide (narrowR v 2 = v) = holdsR 2 v := decide_eq_decide.2 (by show (v + 32768) % 65536 - 32768 = v ↔ _; omega)
    simp -implicitDefEqProofs [convV, c_Narrow, k_Narrow, h1, e, a0, a1, a2, a3, a4, a8, b0, b1, b2, b3]
  · have e : decide (narrowR v 4 = v) = holdsR 3 v := decide_eq_decide.2 (by show (v + 2147483648) % 4294967296 - 2147483648 = v ↔ _; omega)
    simp -implicitDefEqProofs [convV, c_Narrow, k_Narrow, h1, e, a0, a1, a2, a3, a4, a8, b0, b1, b2, b3]
  · have e : decide (narrowR v 8 = v) = holdsR 4 v := by show decide (v = v) = true; simp
    simp -implicitDefEqProofs [convV, c_Narrow, k_Narrow, h1, e, a0, a1, a2, a3, a4, a8, b0, b1, b2, b3]
  · have e : (v == v % 65536) = holdsR 5 v := decide_eq_decide.2 (by omega)
    have e1 : IntKind.u16.wrap v = v % 65536 := u16r v
    have e2 : IntKind.i64.wrap (v % 65536) = v % 65536 := wrap_small (by omega) (by omega)
    simp -implicitDefEqProofs [convV, e1, e2, e]
  · have e : (v / 2 == 0) = holdsR 6 v := decide_eq_decide.2 (by omega)
    have e2 : v.fdiv 2 = v / 2 := Int.fdiv_eq_ediv_of_nonneg _ (by decide)
    simp -implicitDefEqProofs [convV, e2, e])

end Go.Proofs.YtnbgmclbbkfhhaaDoor.B
set_option maxRecDepth 20000
set_option maxHeartbeats 1000000
namespace Go.Proofs.YtnbgmclbbkfhhaaDoor.B
open Go Go.Ab
/-! what is got -/
structure CG where
  n : Bool
  i : Int
  b : Option (List Int)
  next : Int
  err : Int
  ex : Option (List Int)
def CG.bad (e : Int) : CG := ⟨false, 0, none, 0, e, none⟩
def cgetU (k : Int) (b : List Int) (u nx : Int) : CG :=
  if k ≤ 6 then (if holdsR k (M.unfoldI u) = true then ⟨false, M.unfoldI u, none, nx, 0, none⟩ else .bad 52)
  else if u > 200 then .bad 4 else if u > b.length - nx then .bad 2
  else if textR k ((b.drop nx.toNat).take u.toNat) ≠ 0 then ⟨false, 0, none, 0, textR k ((b.drop nx.toNat).take u.toNat), some ((b.drop nx.toNat).take u.toNat)⟩
  else ⟨false, 0, some ((b.drop nx.toNat).take u.toNat), nx + u, 0, some ((b.drop nx.toNat).take u.toNat)⟩
def cgetZ (k : Int) (b : List Int) (p : Int) : CG :=
  if k < 1 ∨ k > 8 ∨ p < 0 ∨ p > b.length then .bad 1 else if p = b.length then .bad 2 else if nth b p.toNat > 1 then .bad 5 else if nth b p.toNat = 0 then ⟨true, 0, none, p + 1, 0, none⟩
  else match M.getR b (p + 1) with | (u, nx, e) => if e ≠ 0 then .bad e else cgetU k b u nx
def cellK (o : Nat) (g : CG) : V := .agg [.bool g.n, .int .i64 g.i, match g.b with | none => .nils | some l => .ref (o + 1) 0 0 l.length 1]
def cellO (o : Nat) (g : CG) : List AO := .cells [.bool g.n, .int .i64 g.i, match g.b with | none => .nils | some l => .ref (o + 1) 0 0 l.length 1] 0 :: (match g.ex with | none => [] | some l => [.cells (ints .u8 l) 0])
theorem fitC0 : fillV (placeOf Tryd.prog 82) [.bool false, .int .i64 0, .nils] [] = some [.bool false, .int .i64 0, .nils] := rfl
theorem fitC1 : fillV (placeOf Tryd.prog 82) [.bool false, .int .i64 0, .nils] [(0, .bool true)] = some [.bool true, .int .i64 0, .nils] := by simp [fillV, setCells]
theorem fitC2 (a : Int) : fillV (placeOf Tryd.prog 82) [.bool false, .int .i64 0, .nils] [(1, .int .i64 a)] = some [.bool false, .int .i64 a, .nils] := by simp [fillV, setCells]
theorem fitC3 (v : V) (h : isDef v = true) (hc : cellsOf v = [v]) : fillV (placeOf Tryd.prog 82) [.bool false, .int .i64 0, .nils] [(2, v)] = some [.bool false, .int .i64 0, v] := by simp [fillV, setCells, h, hc]
theorem unf_range {u : Int} (h0 : 0 ≤ u) (h1 : u < 18446744073709551616) : i64B (M.unfoldI u) = true := by
  rw [i64B_iff]; unfold M.unfoldI; split <;> omega
noncomputable def k_CGetK : Ab.Spec := con3 (ofInt .i64) (ofInts .u8) (ofInt .i64) fun k b p objs => bnd b.length 140737488353000 (if b8 b = true then some (.tup [cellK objs.length (cgetZ k b p), .int .i64 (cgetZ k b p).next, .int .i64 (cgetZ k b p).err], some (objs ++ cellO objs.length (cgetZ k b p), objs.length)) else none)
noncomputable def T_CGetK : CallF := withF T_holds 84 k_CGetK
theorem T_CGetK_ok : CallOk Tryd.prog T_CGetK := con_of (A := annOf [] [] [(102, [.ref])] true []) fit T_holds_ok (fn := Tryd.f84) (by kernel_rfl) (by kernel_rfl) (by
  intro args objs r h0
  have c_known : ∀ a o, T_holds 74 a o = k_known a o := fun _ _ => rfl
  have c_VGet : ∀ a o, T_holds 71 a o = k_VGet a o := fun _ _ => rfl
  have c_Number : ∀ a o, T_holds 75 a o = k_Number a o := fun _ _ => rfl
  have c_Unfold : ∀ a o, T_holds 95 a o = k_Unfold a o := fun _ _ => rfl
  have c_holds : ∀ a o, T_holds 77 a o = k_holds a o := fun _ _ => rfl
  have c_CloneR : ∀ a o, T_holds 81 a o = k_CloneR a o := fun _ _ => rfl
  have c_ctext : ∀ a o, T_holds 76 a o = k_ctext a o := fun _ _ => rfl
  obtain ⟨_, v, _, k, b, p, rfl, hk, ha, hp, hR⟩ := con3_inv h0
  obtain rfl := ofInt_inv hk
  obtain rfl := ofInt_inv hp
  obtain ⟨hl, hR⟩ := bnd_inv hR
  split at hR
  case isFalse => cases hR
  rename_i h8
  cases hR
  have hBy := b8_bytes h8
  obtain ⟨vd, vn, vi, -⟩ := bs ha
  refine .goK _ rfl rfl rfl ?_
  by_cases hk1 : 1 ≤ k ∧ k ≤ 8
  case neg =>
    have hg : cgetZ k b p = .bad 1 := if_pos (by omega)
    have hkd : knownB k = false := decide_eq_false hk1
    simp (disch := omega) [c_known, k_known, hkd, hg, CG.bad, cellK, cellO, fitC0, setCells, getObj_last]
  have hkd : knownB k = true := decide_eq_true hk1
  by_cases h1 : p < 0
  · have hg : cgetZ k b p = .bad 1 := if_pos (by omega)
    simp (disch := omega) [c_known, k_known, hkd, h1, hg, CG.bad, cellK, cellO, fitC0, setCells, getObj_last]
  by_cases h2 : p > b.length
  · have hg : cgetZ k b p = .bad 1 := if_pos (by omega)
    simp (disch := omega) [c_known, k_known, hkd, vn, h1, h2, hg, CG.bad, cellK, cellO, fitC0, setCells, getObj_last]
  obtain ⟨q, rfl⟩ := Int.eq_ofNat_of_zero_le (show 0 ≤ p by omega)
  have h0' : ¬ (k < 1 ∨ k > 8 ∨ (q : Int) < 0 ∨ (q : Int) > b.length) := by omega
  have hqn : ¬ b.length < q := by omega
  by_cases h3 : q = b.length
  · subst h3
    have hg : cgetZ k b (b.length : Int) = .bad 2 := by unfold cgetZ; rw [if_neg h0', if_pos rfl]
    simp (disch := omega) [c_known, k_known, hkd, vn, hg, CG.bad, cellK, cellO, fitC0, setCells, getObj_last]
  have hql : q < b.length := by omega
  have h3' : ¬ (q : Int) = b.length := by omega
  have i1 := vi .i64 q (by omega) (by omega)
  rw [Int.toNat_natCast] at i1
  have en := ints_nth (k := .u8) hql
  have en' := of_get en
  obtain ⟨c, hc⟩ : ∃ c, c = nth b q := ⟨_, rfl⟩
  have hcr := hBy _ (nth_mem hql)
  have hg0 : cgetZ k b (q : Int) = if c > 1 then .bad 5 else if c = 0 then ⟨true, 0, none, (q : Int) + 1, 0, none⟩ else match M.getR b ((q : Int) + 1) with | (u, nx, e) => if e ≠ 0 then .bad e else cgetU k b u nx := by
    unfold cgetZ; rw [if_neg h0', if_neg h3', Int.toNat_natCast, ← hc]
  rw [← hc] at en en' hcr
  have wq : IntKind.i64.wrap ((q : Int) + 1) = (q : Int) + 1 := wrap_small (by omega) (by omega)
  by_cases h4 : c > 1
  · rw [if_pos h4] at hg0
    simp (disch := omega) [c_known, k_known, hkd, vn, hqn, h3, h3', i1, en, en', hql, h4, hg0, CG.bad, cellK, cellO, fitC0, setCells, getObj_last]
  rw [if_neg h4] at hg0
  by_cases h5 : c = 0
  · rw [if_pos h5] at hg0
    rw [h5] at en en'
    simp (disch := omega) [c_known, k_known, hkd, vn, hqn, h3, h3', i1, en, en', hql, hg0, wq, cellK, cellO, fitC1, setCells, getObj_last]
  rw [if_neg h5] at hg0
  have h51 : c = 1 := by omega
  rw [h51] at en en'
  obtain ⟨u, nx, e, hg⟩ : ∃ u nx e, M.getR b ((q : Int) + 1) = (u, nx, e) := ⟨_, _, _, rfl⟩
  have gv : getVR b ((q : Int) + 1) = some (.tup [.int .u64 u, .int .i64 nx, .int .i64 e], none) := by unfold getVR; rw [hg]
  rw [hg] at hg0
  simp only at hg0
  by_cases he : e = 0
  case neg =>
    rw [if_pos he] at hg0
    have he' : (e != 0) = true := by simpa using he
    simp -implicitDefEqProofs (disch := omega) [c_known, k_known, hkd, vn, hqn, h3, h3', i1, en, en', hql, wq, vd, ha, c_VGet, k_VGet, h8, gv, he, he', hg0, CG.bad, cellK, cellO, fitC0, setCells, getObj_last]
  subst he
  rw [if_neg (by simp)] at hg0
  obtain ⟨g1, g2, g3, g4, g5, g6, -⟩ := M.getR_ok hBy hg
  have hur := unf_range g5 g6
  have hun : unfR u = some (.int .i64 (M.unfoldI u), none) := if_pos ⟨g5, g6⟩
  obtain ⟨k1, k8⟩ := hk1
  by_cases hk6 : k ≤ 6
  · have hnd : numB k = true := decide_eq_true ⟨k1, hk6⟩
    unfold cgetU at hg0
    rw [if_pos hk6] at hg0
    by_cases hh : holdsR k (M.unfoldI u) = true
    · rw [if_pos hh] at hg0
      simp -implicitDefEqProofs (disch := omega) [c_known, k_known, hkd, vn, hqn, h3, h3', i1, en, en', hql, wq, vd, ha, c_VGet, k_VGet, h8, gv, c_Number, k_Number, hnd, c_Unfold, k_Unfold, hun, c_holds, k_holds, hur, k1, hk6, hh, hg0, cellK, cellO, fitC2, setCells, getObj_last]
    · rw [if_neg hh] at hg0
      have hh : holdsR k (M.unfoldI u) = false := by simpa using hh
      simp -implicitDefEqProofs (disch := omega) [c_known, k_known, hkd, vn, hqn, h3, h3', i1, en, en', hql, wq, vd, ha, c_VGet, k_VGet, h8, gv, c_Number, k_Number, hnd, c_Unfold, k_Unfold, hun, c_holds, k_holds, hur, k1, hk6, hh, hg0, CG.bad, cellK, cellO, fitC0, setCells, getObj_last]
  have hnd : numB k = false := decide_eq_false fun q => hk6 q.2
  unfold cgetU at hg0
  rw [if_neg hk6] at hg0
  by_cases hu : u > 200
  · rw [if_pos hu] at hg0
    simp -implicitDefEqProofs (disch := omega) [c_known, k_known, hkd, vn, hqn, h3, h3', i1, en, en', hql, wq, vd, ha, c_VGet, k_VGet, h8, gv, c_Number, k_Number, hnd, hu, hg0, CG.bad, cellK, cellO, fitC0, setCells, getObj_last]
  rw [if_neg hu] at hg0
  obtain ⟨U, rfl⟩ := Int.eq_ofNat_of_zero_le g5
  obtain ⟨nx, rfl⟩ := Int.eq_ofNat_of_zero_le (show 0 ≤ nx by omega)
  simp only [Int.toNat_natCast] at hg0
  have wu : IntKind.i64.wrap (U : Int) = U := wrap_small (by omega) (by omega)
  have wb : IntKind.i64.wrap ((b.length : Int) - nx) = (b.length : Int) - nx := wrap_small (by omega) (by omega)
  have wnu : IntKind.i64.wrap ((nx : Int) + U) = (nx : Int) + U := wrap_small (by omega) (by omega)
  have hu' : ¬ 200 < U := by omega
  by_cases hs : (U : Int) > b.length - nx
  · rw [if_pos hs] at hg0
    simp -implicitDefEqProofs (disch := omega) [c_known, k_known, hkd, vn, hqn, h3, h3', i1, en, en', hql, wq, vd, ha, c_VGet, k_VGet, h8, gv, c_Number, k_Number, hnd, hu', convV, wu, wb, hs, hg0, CG.bad, cellK, cellO, fitC0, setCells, getObj_last]
  rw [if_neg hs] at hg0
  obtain ⟨B0, hB0⟩ : ∃ B0 : List AO, B0 = objs ++ [.cells [.bool false, .int .i64 0, .nils] 0] := ⟨_, rfl⟩
  have hvn : isNils v = false := by
    rcases ofInts_inv ha with rfl | ⟨rfl, -, h⟩
    · rfl
    · omega
  obtain ⟨w1, cw1, dw1, nw1, mw1, -⟩ := cutR (ofIntsR_of (objs := B0) ha) (some (.int .i64 (nx : Int))) (some (.int .i64 ((nx : Int) + U))) none nx (nx + U) (by simp [boundV]) (by simp [boundV]; omega) (by omega) (by omega) (.inl rfl)
  have hdt : (b.take (nx + U)).drop nx = (b.drop nx).take U := by rw [List.drop_take, Nat.add_sub_cancel_left]
  rw [hvn] at nw1
  rw [hdt, hB0] at dw1
  obtain ⟨S, hS⟩ : ∃ S, S = (b.drop nx).take U := ⟨_, rfl⟩
  have hSl : S.length = U := by rw [hS, List.length_take, List.length_drop]; omega
  have hS8 : b8 S = true := b8_iff.2 fun c hc => hBy c (by rw [hS] at hc; exact List.mem_of_mem_drop (List.mem_of_mem_take hc))
  rw [← hS] at dw1 hg0
  have eS : ofIntsR .u8 (objs ++ [.cells [.bool false, .int .i64 0, .nils] 0, .cells (ints .u8 S) 0]) (.ref (objs.length + 1) 0 0 U 1) = some S := ofIntsR_ref (by simp) hSl.symm
  have fc := fitC3 (.ref (objs.length + 1) 0 0 U 1) rfl rfl
  by_cases hx : textR k S = 0
  · rw [if_neg (by simp [hx])] at hg0
    simp -implicitDefEqProofs (disch := omega) [c_known, k_known, hkd, vn, hqn, h3, h3', i1, en, en', hql, wq, vd, ha, c_VGet, k_VGet, h8, gv, c_Number, k_Number, hnd, hu', convV, wu, wb, wnu, hs, cw1, mw1, c_CloneR, k_CloneR, dw1, nw1, hSl, c_ctext, k_ctext, eS, hS8, hx, fc, hg0, cellK, cellO, setCells, getObj_last]
  · rw [if_pos hx] at hg0
    have hx' : (textR k S != 0) = true := by simpa using hx
    simp -implicitDefEqProofs (disch := omega) [c_known, k_known, hkd, vn, hqn, h3, h3', i1, en, en', hql, wq, vd, ha, c_VGet, k_VGet, h8, gv, c_Number, k_Number, hnd, hu', convV, wu, wb, wnu, hs, cw1, mw1, c_CloneR, k_CloneR, dw1, nw1, hSl, c_ctext, k_ctext, eS, hS8, hx, hx', fitC0, hg0, cellK, cellO, setCells, getObj_last])

end Go.Proofs.YtnbgmclbbkfhhaaDoor.B
set_option maxRecDepth 20000
set_option maxHeartbeats 1000000
namespace Go.Proofs.YtnbgmclbbkfhhaaDoor.B
open Go Go.Ab
/-! the document's cells -/
theorem one_ofR {k : IntKind} {objs : List AO} {a : V} {l : List Int} (h : ofIntsR k objs a = some l) : demote a = a ∧ oneCell a = true ∧ isDef a = true ∧ cellsOf a = [a] := by
  rcases ofIntsR_inv h with h | ⟨id, ver, off, cs, rfl, -⟩
  · have := ofInts_inv h; exact ⟨this.dem, this.one, this.isDef, this.cells⟩
  · exact ⟨rfl, rfl, rfl, rfl⟩
noncomputable def k_Alike : Ab.Spec := con2 some some fun v w objs => match v, w with
  | .agg [.bool n1, .int .i64 i1, a], .agg [.bool n2, .int .i64 i2, c] => match ofIntsR .u8 objs a, ofIntsR .u8 objs c with
    | some l, some m => bnd l.length 140737488355328 (some (.bool (decide (n1 = n2) && (decide (i1 = i2) && decide (l = m))), none))
    | _, _ => none
  | _, _ => none
noncomputable def T_Alike : CallF := withF T_CGetK 47 k_Alike
theorem T_Alike_ok : CallOk Tryd.prog T_Alike := con_of (A := annOf [] [] [] false []) fit T_CGetK_ok (fn := Tryd.f47) (by kernel_rfl) (by kernel_rfl) (by
  intro args objs r h0
  have c_SameR : ∀ a o, T_CGetK 49 a o = k_SameR a o := fun _ _ => rfl
  obtain ⟨v, w, _, _, rfl, hv, hw, hR⟩ := con2_inv h0
  cases hv; cases hw
  split at hR
  case h_2 => cases hR
  rename_i n1 i1 a n2 i2 c
  split at hR
  case h_2 => cases hR
  rename_i l m ha hc
  obtain ⟨hl, hR⟩ := bnd_inv hR
  cases hR
  obtain ⟨a1, a2, a3, a4⟩ := one_ofR ha
  obtain ⟨c1, c2, c3, c4⟩ := one_ofR hc
  have ha' : ∀ M, ofIntsR .u8 (objs ++ M) a = some l := fun M => ofIntsR_app ha
  have hc' : ∀ M, ofIntsR .u8 (objs ++ M) c = some m := fun M => ofIntsR_app hc
  refine .go _ rfl rfl ?_
  by_cases hn : n1 = n2
  · subst hn
    by_cases hi : i1 = i2
    · subst hi
      simp -implicitDefEqProofs (disch := omega) [a1, a2, a3, a4, c1, c2, c3, c4, c_SameR, k_SameR, ha', hc']
    · have hi' : (i1 == i2) = false := by simpa using hi
      simp -implicitDefEqProofs (disch := omega) [a1, a2, a3, a4, c1, c2, c3, c4, hi, hi']
  · have hn' : (n1 == n2) = false := by simpa using hn
    simp -implicitDefEqProofs (disch := omega) [a1, a2, a3, a4, c1, c2, c3, c4, hn, hn'])
def leastR (k : Int) : Int := if k = 1 then -128 else if k = 2 then -32768 else if k = 3 then -2147483648 else if k = 4 then -9223372036854775808 else 0
def greatR (k : Int) : Int := if k = 1 then 127 else if k = 2 then 32767 else if k = 3 then 2147483647 else if k = 4 then 9223372036854775807 else if k = 5 then 65535 else 1
noncomputable def k_Least : Ab.Spec := con1 (ofInt .i64) fun k _ => some (.int .i64 (leastR k), none)
noncomputable def T_Least : CallF := withF T_Alike 78 k_Least
theorem T_Least_ok : CallOk Tryd.prog T_Least := con_of (A := annOf [] [] [] false []) fit T_Alike_ok (fn := Tryd.f78) (by kernel_rfl) (by kernel_rfl) (by
  intro args objs r h0
  obtain ⟨_, k, rfl, hb, hR⟩ := con1_inv h0
  obtain rfl := ofInt_inv hb
  cases hR
  refine .go _ rfl rfl ?_
  unfold leastR
  by_cases h1 : k = 1
  · simp [h1]
  by_cases h2 : k = 2
  · simp [h2]
  by_cases h3 : k = 3
  · simp [h3]
  by_cases h4 : k = 4
  · simp [h4]
  simp [h1, h2, h3, h4])
noncomputable def k_Greatest : Ab.Spec := con1 (ofInt .i64) fun k _ => some (.int .i64 (greatR k), none)
noncomputable def T_Greatest : CallF := withF T_Least 79 k_Greatest
theorem T_Greatest_ok : CallOk Tryd.prog T_Greatest := con_of (A := annOf [] [] [] false []) fit T_Least_ok (fn := Tryd.f79) (by kernel_rfl) (by kernel_rfl) (by
  intro args objs r h0
  obtain ⟨_, k, rfl, hb, hR⟩ := con1_inv h0
  obtain rfl := ofInt_inv hb
  cases hR
  refine .go _ rfl rfl ?_
  unfold greatR
  by_cases h1 : k = 1
  · simp [h1]
  by_cases h2 : k = 2
  · simp [h2]
  by_cases h3 : k = 3
  · simp [h3]
  by_cases h4 : k = 4
  · simp [h4]
  by_cases h5 : k = 5
  · simp [h5]
  simp [h1, h2, h3, h4, h5])
noncomputable def k_Zero : Ab.Spec := con1 some fun v objs => match ofIntsR .u8 objs v with | some l => bnd l.length 140737488355328 (some (.bool (zeroIn l), none)) | none => none
noncomputable def T_Zero : CallF := withF T_Greatest 80 k_Zero
theorem T_Zero_ok : CallOk Tryd.prog T_Zero := con_of (A := annOf [] [] [] false []) fit T_Greatest_ok (fn := Tryd.f80) (by kernel_rfl) (by kernel_rfl) (by
  intro args objs r h0
  obtain ⟨v, _, rfl, hv, hR⟩ := con1_inv h0
  cases hv
  split at hR
  case h_2 => cases hR
  rename_i l ha
  obtain ⟨hl, hR⟩ := bnd_inv hR
  cases hR
  obtain ⟨P, vd, vn, vi, vl⟩ := bsR ha
  refine .go _ rfl rfl ?_
  simp
  refine .up l.length (fun i s => s.env 0 = v ∧ s.env 3 = .int .i64 i ∧ s.toks = [] ∧ s.objs = objs ∧ s.low = objs.length ∧ ∀ j, j < i → nth l j ≠ 0) (by simp) ?_
  rintro i s hi ⟨h0, h3, ht, ho, hlo, hj⟩
  rcases Nat.lt_or_ge i l.length with h | h
  · by_cases hz : nth l i = 0
    · have hc : zeroIn l = true := by unfold zeroIn; rw [List.contains_iff_mem, ← hz]; exact nth_mem h
      simp (disch := omega) [h0, h3, ht, ho, hlo, vn, vi, vl, h, hz, hc]
    · have hs : ∀ j, j < i + 1 → nth l j ≠ 0 := fun j hj2 => by
        rcases Nat.lt_or_ge j i with q | q
        · exact hj j q
        · obtain rfl : j = i := by omega
          exact hz
      simp (disch := omega) [h0, h3, ht, ho, hlo, vn, vi, vl, h, hz, wrap_small]
      exact hs
  · obtain rfl : i = l.length := by omega
    have hc : zeroIn l = false := by
      unfold zeroIn
      rw [Bool.eq_false_iff]
      intro q
      rw [List.contains_iff_mem] at q
      obtain ⟨j, hj2, e⟩ := List.getElem_of_mem q
      exact hj j hj2 (by rw [nth_lt hj2]; exact e)
    simp [h0, h3, ht, ho, hlo, vn, hc])
def checkR (kind : Int) (null n : Bool) (i : Int) (b : List Int) : Int :=
  if kind < 1 ∨ kind > 8 then 1 else if n = true then (if null = true then (if i = 0 ∧ b = [] then 0 else 50) else 51)
  else if kind ≤ 6 then (if b = [] then (if holdsR kind i = true then 0 else 52) else 50) else if i = 0 then textR kind b else 50
noncomputable def k_rCheck : Ab.Spec := con3 (ofInt .i64) ofBool some fun k nl v objs => match v with
  | .agg [.bool n, .int .i64 i, a] => match ofIntsR .u8 objs a with
    | some l => bnd l.length 140737488355328 (if i64B i = true then some (.int .i64 (checkR k nl n i l), none) else none)
    | none => none
  | _ => none
noncomputable def T_rCheck : CallF := withF T_Zero 58 k_rCheck
theorem T_rCheck_ok : CallOk Tryd.prog T_rCheck := con_of (A := annOf [] [] [] false []) fit T_Zero_ok (fn := Tryd.f58) (by kernel_rfl) (by kernel_rfl) (by
  intro args objs r h0
  have c_Least : ∀ a o, T_Zero 78 a o = k_Least a o := fun _ _ => rfl
  have c_Greatest : ∀ a o, T_Zero 79 a o = k_Greatest a o := fun _ _ => rfl
  have c_Zero : ∀ a o, T_Zero 80 a o = k_Zero a o := fun _ _ => rfl
  obtain ⟨_, _, v, k, nl, _, rfl, hk, hnl, hv, hR⟩ := con3_inv h0
  obtain rfl := ofInt_inv hk
  obtain rfl := ofBool_inv hnl
  cases hv
  split at hR
  case h_2 => cases hR
  rename_i n i a
  split at hR
  case h_2 => cases hR
  rename_i l ha
  obtain ⟨hl, hR⟩ := bnd_inv hR
  split at hR
  case isFalse => cases hR
  rename_i hib
  cases hR
  obtain ⟨v0, v1⟩ := i64B_iff.1 hib
  obtain ⟨a1, a2, a3, a4⟩ := one_ofR ha
  obtain ⟨P, -, vn, -⟩ := bsR ha
  have ha' : ∀ M, ofIntsR .u8 (objs ++ M) a = some l := fun M => ofIntsR_app ha
  refine .go _ rfl rfl ?_
  by_cases k1 : k < 1
  · have hg : checkR k nl n i l = 1 := if_pos (.inl k1)
    simp -implicitDefEqProofs (disch := omega) [a1, a2, a3, a4, k1, hg]
  by_cases k8 : 8 < k
  · have hg : checkR k nl n i l = 1 := if_pos (.inr k8)
    simp -implicitDefEqProofs (disch := omega) [a1, a2, a3, a4, k1, k8, hg]
  have hg0 : checkR k nl n i l = if n = true then (if nl = true then (if i = 0 ∧ l = [] then 0 else 50) else 51)
      else if k ≤ 6 then (if l = [] then (if holdsR k i = true then 0 else 52) else 50) else if i = 0 then textR k l else 50 := if_neg (by omega)
  have hl0 : ∀ h : ¬ l = [], 0 < l.length := fun h => List.length_pos_iff.2 h
  cases n with
  | true =>
    rw [if_pos rfl] at hg0
    cases nl with
    | false =>
      simp -implicitDefEqProofs (disch := omega) [a1, a2, a3, a4, k1, k8, hg0]
    | true =>
      rw [if_pos rfl] at hg0
      by_cases hi : i = 0
      · subst hi
        by_cases hz : l = []
        · subst hz
          simp -implicitDefEqProofs (disch := omega) [a1, a2, a3, a4, k1, k8, vn, hg0]
        · have := hl0 hz
          simp -implicitDefEqProofs (disch := omega) [a1, a2, a3, a4, k1, k8, vn, hg0, hz, this]
      · have hi' : (i != 0) = true := by simpa using hi
        simp -implicitDefEqProofs (disch := omega) [a1, a2, a3, a4, k1, k8, vn, hg0, hi, hi']
  | false =>
    rw [if_neg (by simp)] at hg0
    by_cases k6 : k ≤ 6
    · rw [if_pos k6] at hg0
      by_cases hz : l = []
      · subst hz
        rw [if_pos rfl] at hg0
        by_cases hh : holdsR k i = true
        · rw [if_pos hh] at hg0
          have hb : leastR k ≤ i ∧ i ≤ greatR k := by
            unfold holdsR at hh; unfold leastR greatR
            obtain rfl | rfl | rfl | rfl | rfl | rfl : k = 1 ∨ k = 2 ∨ k = 3 ∨ k = 4 ∨ k = 5 ∨ k = 6 := by omega
            all_goals simp at hh ⊢
            all_goals omega
          have hb1 : ¬ i < leastR k := by omega
          have hb2 : ¬ greatR k < i := by omega
          simp -implicitDefEqProofs (disch := omega) [a1, a2, a3, a4, k1, k8, k6, vn, hg0, c_Least, k_Least, c_Greatest, k_Greatest, hb1, hb2]
        · rw [if_neg hh] at hg0
          have hb : i < leastR k ∨ greatR k < i := by
            unfold holdsR at hh; unfold leastR greatR
            obtain rfl | rfl | rfl | rfl | rfl | rfl : k = 1 ∨ k = 2 ∨ k = 3 ∨ k = 4 ∨ k = 5 ∨ k = 6 := by omega
            all_goals simp at hh ⊢
            all_goals omega
          by_cases hb1 : i < leastR k
          · simp -implicitDefEqProofs (disch := omega) [a1, a2, a3, a4, k1, k8, k6, vn, hg0, c_Least, k_Least, c_Greatest, k_Greatest, hb1]
          · have hb2 : greatR k < i := hb.resolve_left hb1
            simp -implicitDefEqProofs (disch := omega) [a1, a2, a3, a4, k1, k8, k6, vn, hg0, c_Least, k_Least, c_Greatest, k_Greatest, hb1, hb2]
      · rw [if_neg hz] at hg0
        have := hl0 hz
        simp -implicitDefEqProofs (disch := omega) [a1, a2, a3, a4, k1, k8, k6, vn, hg0, hz, this]
    · rw [if_neg k6] at hg0
      by_cases hi : i = 0
      · subst hi
        rw [if_pos rfl] at hg0
        by_cases h200 : l.length > 200
        · have ht : textR k l = 4 := if_pos h200
          rw [ht] at hg0
          simp -implicitDefEqProofs (disch := omega) [a1, a2, a3, a4, k1, k8, k6, vn, hg0, h200]
        by_cases h7 : k = 7
        · subst h7
          by_cases hc : zeroIn l = true
          · have ht : textR 7 l = 5 := by unfold textR; rw [if_neg h200, if_pos ⟨rfl, hc⟩]
            rw [ht] at hg0
            simp -implicitDefEqProofs (disch := omega) [a1, a2, a3, a4, vn, hg0, h200, c_Zero, k_Zero, ha', hc]
          · have ht : textR 7 l = 0 := by unfold textR; rw [if_neg h200, if_neg (fun q => hc q.2)]
            have hc : zeroIn l = false := by simpa using hc
            rw [ht] at hg0
            simp -implicitDefEqProofs (disch := omega) [a1, a2, a3, a4, vn, hg0, h200, c_Zero, k_Zero, ha', hc]
        · have ht : textR k l = 0 := by unfold textR; rw [if_neg h200, if_neg (fun q => h7 q.1)]
          rw [ht] at hg0
          simp -implicitDefEqProofs (disch := omega) [a1, a2, a3, a4, k1, k8, k6, vn, hg0, h200, h7]
      · rw [if_neg hi] at hg0
        have hi' : (i != 0) = true := by simpa using hi
        simp -implicitDefEqProofs (disch := omega) [a1, a2, a3, a4, k1, k8, k6, vn, hg0, hi, hi'])

end Go.Proofs.YtnbgmclbbkfhhaaDoor.B
set_option maxRecDepth 20000
set_option maxHeartbeats 1000000
namespace Go.Proofs.YtnbgmclbbkfhhaaDoor.B
open Go Go.Ab
def cellV (g : CG) : V := .agg [.bool g.n, .int .i64 g.i, match g.b with | none => .nils | some l => .lst .frozen (ints .u8 l) l.length]
theorem checkN {k i : Int} (h1 : 1 ≤ k) (h6 : k ≤ 6) : checkR k true false i [] = if holdsR k i = true then 0 else 52 := by
  unfold checkR; rw [if_neg (by omega), if_neg (by simp), if_pos h6, if_pos rfl]
theorem checkT {k : Int} {S : List Int} (h6 : ¬ k ≤ 6) (h8 : k ≤ 8) : checkR k true false 0 S = textR k S := by
  unfold checkR; rw [if_neg (by omega), if_neg (by simp), if_neg h6, if_pos rfl]
theorem piece_eq5 (l : List Int) (q n m : Nat) (h : m = q + n) : pieceZ l (q : Int) ((m : Nat) : Int) = (l.drop q).take n := by
  subst h
  unfold pieceZ
  rw [Int.toNat_natCast, Int.toNat_natCast, List.drop_take]
  congr 1; omega
noncomputable def k_rCGet : Ab.Spec := con3 (ofInt .i64) (ofInts .u8) (ofInt .i64) fun k b p objs => bnd b.length 140737488353000 (if b8 b = true then some (.tup [cellV (cgetZ k b p), .int .i64 (cgetZ k b p).next, .int .i64 (cgetZ k b p).err], none) else none)
noncomputable def T_rCGet : CallF := withF T_rCheck 85 k_rCGet
theorem T_rCGet_ok : CallOk Tryd.prog T_rCGet := con_of (A := annOf [] [] [] false []) fit T_rCheck_ok (fn := Tryd.f85) (by kernel_rfl) (by kernel_rfl) (by
  intro args objs r h0
  have c_RGet : ∀ a o, T_rCheck 72 a o = k_RGet a o := fun _ _ => rfl
  have c_RUnfold : ∀ a o, T_rCheck 96 a o = k_RUnfold a o := fun _ _ => rfl
  have c_Piece : ∀ a o, T_rCheck 50 a o = k_Piece a o := fun _ _ => rfl
  have c_rCheck : ∀ a o, T_rCheck 58 a o = k_rCheck a o := fun _ _ => rfl
  obtain ⟨_, v, _, k, b, p, rfl, hk, ha, hp, hR⟩ := con3_inv h0
  obtain rfl := ofInt_inv hk
  obtain rfl := ofInt_inv hp
  obtain ⟨hl, hR⟩ := bnd_inv hR
  split at hR
  case isFalse => cases hR
  rename_i h8
  cases hR
  have hBy := b8_bytes h8
  obtain ⟨vd, vn, vi, -⟩ := bs ha
  have nlo : ¬ objs.length + 1 < objs.length := by omega
  refine .go _ rfl rfl ?_
  by_cases hk1 : k < 1
  · have hg : cgetZ k b p = .bad 1 := if_pos (by omega)
    simp (disch := omega) [hk1, hg, CG.bad, cellV, fitC0, setCells, getObj_last, nlo]
  by_cases hk8 : 8 < k
  · have hg : cgetZ k b p = .bad 1 := if_pos (by omega)
    simp (disch := omega) [hk1, hk8, hg, CG.bad, cellV, fitC0, setCells, getObj_last, nlo]
  by_cases h1 : p < 0
  · have hg : cgetZ k b p = .bad 1 := if_pos (by omega)
    simp (disch := omega) [hk1, hk8, h1, hg, CG.bad, cellV, fitC0, setCells, getObj_last, nlo]
  by_cases h2 : p > b.length
  · have hg : cgetZ k b p = .bad 1 := if_pos (by omega)
    simp (disch := omega) [hk1, hk8, vn, h1, h2, hg, CG.bad, cellV, fitC0, setCells, getObj_last, nlo]
  obtain ⟨q, rfl⟩ := Int.eq_ofNat_of_zero_le (show 0 ≤ p by omega)
  have h0' : ¬ (k < 1 ∨ k > 8 ∨ (q : Int) < 0 ∨ (q : Int) > b.length) := by omega
  have hqn : ¬ b.length < q := by omega
  by_cases h3 : q = b.length
  · subst h3
    have hg : cgetZ k b (b.length : Int) = .bad 2 := by unfold cgetZ; rw [if_neg h0', if_pos rfl]
    simp (disch := omega) [hk1, hk8, vn, hg, CG.bad, cellV, fitC0, setCells, getObj_last, nlo]
  have hql : q < b.length := by omega
  have h3' : ¬ (q : Int) = b.length := by omega
  have i1 := vi .i64 q (by omega) (by omega)
  rw [Int.toNat_natCast] at i1
  have en := ints_nth (k := .u8) hql
  have en' := of_get en
  obtain ⟨c, hc⟩ : ∃ c, c = nth b q := ⟨_, rfl⟩
  have hcr := hBy _ (nth_mem hql)
  have hg0 : cgetZ k b (q : Int) = if c > 1 then .bad 5 else if c = 0 then ⟨true, 0, none, (q : Int) + 1, 0, none⟩ else match M.getR b ((q : Int) + 1) with | (u, nx, e) => if e ≠ 0 then .bad e else cgetU k b u nx := by
    unfold cgetZ; rw [if_neg h0', if_neg h3', Int.toNat_natCast, ← hc]
  rw [← hc] at en en' hcr
  have wq : IntKind.i64.wrap ((q : Int) + 1) = (q : Int) + 1 := wrap_small (by omega) (by omega)
  by_cases h5 : c = 0
  · rw [if_neg (by omega), if_pos h5] at hg0
    rw [h5] at en en'
    simp (disch := omega) [hk1, hk8, vn, hqn, h3, h3', i1, en, en', hql, hg0, wq, cellV, fitC1, setCells, getObj_last, nlo]
  by_cases h4 : c > 1
  · rw [if_pos h4] at hg0
    have h41 : ¬ c = 1 := by omega
    simp (disch := omega) [hk1, hk8, vn, hqn, h3, h3', i1, en, en', hql, h5, h41, hg0, CG.bad, cellV, fitC0, setCells, getObj_last, nlo]
  rw [if_neg h4, if_neg h5] at hg0
  have h51 : c = 1 := by omega
  rw [h51] at en en'
  obtain ⟨u, nx, e, hg⟩ : ∃ u nx e, M.getR b ((q : Int) + 1) = (u, nx, e) := ⟨_, _, _, rfl⟩
  have gv : getVR b ((q : Int) + 1) = some (.tup [.int .u64 u, .int .i64 nx, .int .i64 e], none) := by unfold getVR; rw [hg]
  rw [hg] at hg0
  simp only at hg0
  by_cases he : e = 0
  case neg =>
    rw [if_pos he] at hg0
    have he' : (e != 0) = true := by simpa using he
    simp -implicitDefEqProofs (disch := omega) [hk1, hk8, vn, hqn, h3, h3', i1, en, en', hql, wq, vd, ha, c_RGet, k_RGet, h8, gv, he, he', hg0, CG.bad, cellV, fitC0, setCells, getObj_last, nlo]
  subst he
  rw [if_neg (by simp)] at hg0
  obtain ⟨g1, g2, g3, g4, g5, g6, -⟩ := M.getR_ok hBy hg
  have hur := unf_range g5 g6
  have hun : unfR u = some (.int .i64 (M.unfoldI u), none) := if_pos ⟨g5, g6⟩
  have n0 : ∀ O, ofIntsR .u8 O V.nils = some [] := fun _ => rfl
  have z0 : i64B 0 = true := rfl
  by_cases hk6 : k ≤ 6
  · have hch := checkN (k := k) (i := M.unfoldI u) (by omega) hk6
    unfold cgetU at hg0
    rw [if_pos hk6] at hg0
    by_cases hh : holdsR k (M.unfoldI u) = true
    · rw [if_pos hh] at hg0 hch
      simp -implicitDefEqProofs (disch := omega) [hk1, hk8, vn, hqn, h3, h3', i1, en, en', hql, wq, vd, ha, c_RGet, k_RGet, h8, gv, hk6, c_RUnfold, k_RUnfold, hun, c_rCheck, k_rCheck, n0, hur, hch, hg0, cellV, fitC0, setCells, getObj_last, nlo]
    · rw [if_neg hh] at hg0 hch
      simp -implicitDefEqProofs (disch := omega) [hk1, hk8, vn, hqn, h3, h3', i1, en, en', hql, wq, vd, ha, c_RGet, k_RGet, h8, gv, hk6, c_RUnfold, k_RUnfold, hun, c_rCheck, k_rCheck, n0, hur, hch, hg0, CG.bad, cellV, fitC0, setCells, getObj_last, nlo]
  unfold cgetU at hg0
  rw [if_neg hk6] at hg0
  by_cases hu : u > 200
  · rw [if_pos hu] at hg0
    simp -implicitDefEqProofs (disch := omega) [hk1, hk8, vn, hqn, h3, h3', i1, en, en', hql, wq, vd, ha, c_RGet, k_RGet, h8, gv, hk6, hu, hg0, CG.bad, cellV, fitC0, setCells, getObj_last, nlo]
  rw [if_neg hu] at hg0
  obtain ⟨U, rfl⟩ := Int.eq_ofNat_of_zero_le g5
  obtain ⟨nx, rfl⟩ := Int.eq_ofNat_of_zero_le (show 0 ≤ nx by omega)
  simp only [Int.toNat_natCast] at hg0
  have wu : IntKind.i64.wrap (U : Int) = U := wrap_small (by omega) (by omega)
  have wb : IntKind.i64.wrap ((b.length : Int) - nx) = ((b.length - nx : Nat) : Int) := by rw [wrap_small (by omega) (by omega)]; omega
  have wbu : IntKind.u64.wrap ((b.length - nx : Nat) : Int) = ((b.length - nx : Nat) : Int) := wrap_u64 (by omega) (by omega)
  have wnu : IntKind.i64.wrap ((nx : Int) + U) = (nx : Int) + U := wrap_small (by omega) (by omega)
  have hu' : ¬ 200 < U := by omega
  by_cases hs : (U : Int) > b.length - nx
  · rw [if_pos hs] at hg0
    have hs' : b.length - nx < U := by omega
    simp -implicitDefEqProofs (disch := omega) [hk1, hk8, vn, hqn, h3, h3', i1, en, en', hql, wq, vd, ha, c_RGet, k_RGet, h8, gv, hk6, hu', convV, wb, wbu, hs', hg0, CG.bad, cellV, fitC0, setCells, getObj_last, nlo]
  rw [if_neg hs] at hg0
  have hs' : ¬ b.length - nx < U := by omega
  have lt1 : (nx : Int) < 9223372036854775807 := by omega
  have p2 : pieceZ b (nx : Int) ((nx : Int) + U) = (b.drop nx).take U := by
    have := piece_eq5 b nx U (nx + U) rfl
    rwa [Int.natCast_add] at this
  obtain ⟨S, hS⟩ : ∃ S, S = (b.drop nx).take U := ⟨_, rfl⟩
  have hSl : S.length = U := by rw [hS, List.length_take, List.length_drop]; omega
  rw [← hS] at hg0 p2
  have eS : ∀ O : List AO, ofIntsR .u8 O (.lst .frozen (ints .u8 S) U) = some S := fun O => ofIntsR_of (ofInts_lst (by rw [hSl]))
  have hch := checkT (k := k) (S := S) hk6 (by omega)
  by_cases hx : textR k S = 0
  · rw [if_neg (by simp [hx])] at hg0
    rw [hx] at hch
    simp -implicitDefEqProofs (disch := omega) [hk1, hk8, vn, hqn, h3, h3', i1, en, en', hql, wq, vd, ha, c_RGet, k_RGet, h8, gv, hk6, hu', convV, wu, wb, wbu, wnu, hs', c_Piece, k_Piece, lt1, p2, hSl, c_rCheck, k_rCheck, eS, z0, hch, hg0, cellV, fitC0, setCells, getObj_last, nlo]
  · rw [if_pos hx] at hg0
    have hx' : (textR k S != 0) = true := by simpa using hx
    simp -implicitDefEqProofs (disch := omega) [hk1, hk8, vn, hqn, h3, h3', i1, en, en', hql, wq, vd, ha, c_RGet, k_RGet, h8, gv, hk6, hu', convV, wu, wb, wbu, wnu, hs', c_Piece, k_Piece, lt1, p2, hSl, c_rCheck, k_rCheck, eS, z0, hch, hx, hx', hg0, cellV, fitC0, setCells, getObj_last, nlo])

end Go.Proofs.YtnbgmclbbkfhhaaDoor.B
