import Derived.Test.YtaibfjipombilaaCeA
set_option linter.unusedSimpArgs false
set_option linter.unusedVariables false
set_option linter.unusedSectionVars false
set_option maxRecDepth 20000
set_option maxHeartbeats 1000000
namespace Go.Proofs.Ytaibfjipombilaa.B
open Go Go.Ab
/-! one value of a table: kinds, what they hold, texts -/
def holdsR (kind v : Int) : Bool :=
  if kind = 1 then decide (-128 ≤ v ∧ v ≤ 127) else if kind = 2 then decide (-32768 ≤ v ∧ v ≤ 32767) else if kind = 3 then decide (-2147483648 ≤ v ∧ v ≤ 2147483647)
  else if kind = 4 then true else if kind = 5 then decide (0 ≤ v ∧ v ≤ 65535) else decide (0 ≤ v ∧ v ≤ 1)
def zeroIn (b : List Int) : Bool := b.contains 0
def textR (kind : Int) (b : List Int) : Int := if b.length > 200 then 4 else if kind = 7 ∧ zeroIn b = true then 5 else 0
def idxB (b : List Int) (x : Int) : Int := Lib.indexByte (Lib.bytesOf b) x.toNat.toUInt8
theorem zero_in : ∀ {l : List Int}, (∀ c ∈ l, 0 ≤ c ∧ c < 256) → (0 ≤ idxB l 0 ↔ zeroIn l = true)
  | [], _ => by simp [idxB, Lib.bytesOf, Lib.indexByte, zeroIn]
  | x :: l, h => by
    have hx := h x List.mem_cons_self
    have ih := zero_in (l := l) (fun y hy => h y (List.mem_cons_of_mem _ hy))
    unfold idxB zeroIn at ih ⊢
    have hge := Lib.indexByte_ge (Lib.bytesOf l) (0 : Int).toNat.toUInt8
    have hb : Lib.bytesOf (x :: l) = UInt8.ofNat x.toNat :: Lib.bytesOf l := rfl
    rw [hb, Lib.indexByte]
    by_cases h0 : x = 0
    · subst h0; simp
    · have hne : (UInt8.ofNat x.toNat == (0 : Int).toNat.toUInt8) = false := by
        rw [beq_eq_false_iff_ne]
        intro he
        have := congrArg UInt8.toNat he
        simp only [UInt8.toNat_ofNat', Int.toNat_zero] at this
        have h2 : x.toNat % 2 ^ 8 = x.toNat := Nat.mod_eq_of_lt (by omega)
        rw [h2] at this
        have h3 : ((0 : Nat).toUInt8).toNat = 0 := rfl
        omega
      rw [hne]
      have hc : (x :: l).contains 0 = l.contains 0 := by simp [Ne.symm h0]
      rw [hc]
      simp only [Bool.false_eq_true, if_false]
      by_cases hm : Lib.indexByte (Lib.bytesOf l) (0 : Int).toNat.toUInt8 = -1
      · rw [hm] at ih ⊢
        rw [if_pos (by rfl)]
        exact ih
      · have hn : (Lib.indexByte (Lib.bytesOf l) (0 : Int).toNat.toUInt8 == -1) = false := by rw [beq_eq_false_iff_ne]; exact hm
        rw [hn]
        simp only [Bool.false_eq_true, if_false]
        constructor
        · intro _; exact ih.1 (by omega)
        · intro _; omega
def numB (k : Int) : Bool := decide (1 ≤ k ∧ k ≤ 6)
noncomputable def k_Number : Ab.Spec := con1 (ofInt .i64) fun k _ => some (.bool (numB k), none)
noncomputable def T_Number : CallF := withF T_CloneR 13 k_Number
theorem T_Number_ok : CallOk Try.prog T_Number := con_of (A := annOf [] [] [] false []) fit T_CloneR_ok (fn := Try.f13) (by kernel_rfl) (by kernel_rfl) (by
  intro args objs r h0
  obtain ⟨_, k, rfl, hb, hR⟩ := con1_inv h0
  obtain rfl := ofInt_inv hb
  cases hR
  refine .go _ rfl rfl ?_
  by_cases h1 : 1 ≤ k
  · by_cases h2 : k ≤ 6
    · have e : numB k = true := decide_eq_true ⟨h1, h2⟩
      simp [h1, h2, e]
    · have e : numB k = false := decide_eq_false fun q => h2 q.2
      simp [h1, h2, e]
  · have e : numB k = false := decide_eq_false fun q => h1 q.1
    simp [h1, e])
def knownB (k : Int) : Bool := decide (1 ≤ k ∧ k ≤ 8)
noncomputable def k_known : Ab.Spec := con1 (ofInt .i64) fun k _ => some (.bool (knownB k), none)
noncomputable def T_known : CallF := withF T_Number 28 k_known
theorem T_known_ok : CallOk Try.prog T_known := con_of (A := annOf [] [] [] false []) fit T_Number_ok (fn := Try.f28) (by kernel_rfl) (by kernel_rfl) (by
  intro args objs r h0
  obtain ⟨_, k, rfl, hb, hR⟩ := con1_inv h0
  obtain rfl := ofInt_inv hb
  cases hR
  refine .go _ rfl rfl ?_
  by_cases h1 : 1 ≤ k
  · by_cases h2 : k ≤ 8
    · have e : knownB k = true := decide_eq_true ⟨h1, h2⟩
      simp [h1, h2, e]
    · have e : knownB k = false := decide_eq_false fun q => h2 q.2
      simp [h1, h2, e]
  · have e : knownB k = false := decide_eq_false fun q => h1 q.1
    simp [h1, e])
noncomputable def k_bIndexByte : Ab.Spec := con2 some (ofInt .u8) fun v x objs => match ofIntsR .u8 objs v with | some a => some (.int .i64 (idxB a x), none) | _ => none
noncomputable def T_bIndexByte : CallF := withF T_known 54 k_bIndexByte
theorem T_bIndexByte_ok : CallOk Try.prog T_bIndexByte := con_ext Extern.BytealgIndexByte.indexByte T_known_ok (fn := Try.f54) (by kernel_rfl) (by kernel_rfl) rfl (by kernel_rfl) (by kernel_rfl) (by
  intro args objs r h0
  obtain ⟨v, _, _, x, rfl, hv, hx, hR⟩ := con2_inv h0
  cases hv
  obtain rfl := ofInt_inv hx
  split at hR
  case h_2 => cases hR
  rename_i a ha
  cases hR
  refine ⟨rfl, rfl, fun G w1 cargs hs hA => ?_⟩
  obtain ⟨x1, y, hxy⟩ : ∃ x y, cargs = #[x, y] := by
    have hl := hA.len
    match cargs, hl with
    | ⟨[x, y]⟩, _ => exact ⟨x, y, rfl⟩
  subst hxy
  obtain ⟨⟨vx, -⟩, ⟨vy, -⟩, -⟩ := hA
  have h1 := read_bytes (P := Try.prog) hs vx ha
  refine ⟨.int .i64 (idxB a x), ?_, .int⟩
  cases vy
  have hS := Lib.run_indexByteString (P := Try.prog) ⟨(Lib.bytesOf a).toArray⟩ x w1
  change Sem.run Try.prog (do
    let b ← Extern.Bytes.bytesOf x1
    let c ← Extern.Bytes.asByte (.int .u8 x)
    match (List.range b.size).find? fun i => b[i]! == c with
    | some i => pure (goInt i)
    | none => pure (goInt (-1))) w1 = _
  change Sem.run Try.prog (do
    let b ← Extern.Bytes.bytesOf (.string ⟨(Lib.bytesOf a).toArray⟩)
    let c ← Extern.Bytes.asByte (.int .u8 x)
    match (List.range b.size).find? fun i => b[i]! == c with
    | some i => pure (goInt i)
    | none => pure (goInt (-1))) w1 = _ at hS
  simp only [Extern.Bytes.bytesOf, Sem.run_bind, Sem.run_pure, Result.andThen] at hS
  simp only [Sem.run_bind, Sem.run_pure, h1, Result.andThen]
  exact hS)
noncomputable def k_IndexByte : Ab.Spec := con2 some (ofInt .u8) fun v x objs => match ofIntsR .u8 objs v with | some a => some (.int .i64 (idxB a x), none) | _ => none
noncomputable def T_IndexByte : CallF := withF T_bIndexByte 49 k_IndexByte
theorem T_IndexByte_ok : CallOk Try.prog T_IndexByte := con_of (A := annOf [] [] [] false []) fit T_bIndexByte_ok (fn := Try.f49) (by kernel_rfl) (by kernel_rfl) (by
  intro args objs r h0
  have c_bIndexByte : ∀ a o, T_bIndexByte 54 a o = k_bIndexByte a o := fun _ _ => rfl
  obtain ⟨v, _, _, x, rfl, hv, hx, hR⟩ := con2_inv h0
  cases hv
  obtain rfl := ofInt_inv hx
  split at hR
  case h_2 => cases hR
  rename_i a ha
  cases hR
  obtain ⟨_, vd, -⟩ := bsR ha
  refine .go _ rfl rfl ?_
  simp -implicitDefEqProofs [vd, c_bIndexByte, k_bIndexByte, ha])
noncomputable def k_ctext : Ab.Spec := con2 (ofInt .i64) some fun k v objs => match ofIntsR .u8 objs v with | some a => bnd a.length 140737488355328 (if b8 a = true then some (.int .i64 (textR k a), none) else none) | _ => none
noncomputable def T_ctext : CallF := withF T_IndexByte 29 k_ctext
theorem T_ctext_ok : CallOk Try.prog T_ctext := con_of (A := annOf [] [] [] false []) fit T_IndexByte_ok (fn := Try.f29) (by kernel_rfl) (by kernel_rfl) (by
  intro args objs r h0
  have c_IndexByte : ∀ a o, T_IndexByte 49 a o = k_IndexByte a o := fun _ _ => rfl
  obtain ⟨_, v, k, _, rfl, hk, hv, hR⟩ := con2_inv h0
  cases hv
  obtain rfl := ofInt_inv hk
  split at hR
  case h_2 => cases hR
  rename_i a ha
  obtain ⟨hl, hR⟩ := bnd_inv hR
  split at hR
  case isFalse => cases hR
  rename_i h8
  cases hR
  obtain ⟨_, vd, vn, -⟩ := bsR ha
  have hz := zero_in (b8_iff.1 h8)
  refine .go _ rfl rfl ?_
  by_cases h1 : a.length > 200
  · have ht : textR k a = 4 := if_pos h1
    simp -implicitDefEqProofs (disch := omega) [vn, h1, ht]
  by_cases h7 : k = 7
  · subst h7
    by_cases hc : zeroIn a = true
    · have ht : textR 7 a = 5 := by unfold textR; rw [if_neg h1, if_pos ⟨rfl, hc⟩]
      have hi := hz.2 hc
      simp -implicitDefEqProofs (disch := omega) [vd, vn, h1, ht, c_IndexByte, k_IndexByte, ha, hi]
    · have ht : textR 7 a = 0 := by unfold textR; rw [if_neg h1, if_neg (fun q => hc q.2)]
      have hi : ¬ 0 ≤ idxB a 0 := fun q => hc (hz.1 q)
      simp -implicitDefEqProofs (disch := omega) [vd, vn, h1, ht, c_IndexByte, k_IndexByte, ha, hi]
  · have ht : textR k a = 0 := by unfold textR; rw [if_neg h1, if_neg (fun q => h7 q.1)]
    simp -implicitDefEqProofs (disch := omega) [vd, vn, h1, ht, h7])
def i64B (v : Int) : Bool := decide (-9223372036854775808 ≤ v) && decide (v < 9223372036854775808)
theorem i64B_iff {v : Int} : i64B v = true ↔ -9223372036854775808 ≤ v ∧ v < 9223372036854775808 := by simp [i64B]
def narrowR (v size : Int) : Int :=
  if size = 1 then (v + 128) % 256 - 128 else if size = 2 then (v + 32768) % 65536 - 32768 else if size = 4 then (v + 2147483648) % 4294967296 - 2147483648 else v
theorem i8r (x : Int) : IntKind.i8.wrap x = (x + 128) % 256 - 128 := by
  simp only [IntKind.wrap, IntKind.bits, IntKind.signed]; simp; split <;> omega
theorem i16r (x : Int) : IntKind.i16.wrap x = (x + 32768) % 65536 - 32768 := by
  simp only [IntKind.wrap, IntKind.bits, IntKind.signed]; simp; split <;> omega
theorem i32r (x : Int) : IntKind.i32.wrap x = (x + 2147483648) % 4294967296 - 2147483648 := by
  simp only [IntKind.wrap, IntKind.bits, IntKind.signed]; simp; split <;> omega
theorem u16r (x : Int) : IntKind.u16.wrap x = x % 65536 := by
  simp only [IntKind.wrap, IntKind.bits, IntKind.signed]; simp
noncomputable def k_Narrow : Ab.Spec := con2 (ofInt .i64) (ofInt .i64) fun v s _ => if i64B v = true ∧ (s = 1 ∨ s = 2 ∨ s = 4 ∨ s = 8) then some (.tup [.int .i64 (narrowR v s), .bool (decide (narrowR v s = v))], none) else none
noncomputable def T_Narrow : CallF := withF T_ctext 50 k_Narrow
theorem T_Narrow_ok : CallOk Try.prog T_Narrow := con_of (A := annOf [] [] [] false []) fit T_ctext_ok (fn := Try.f50) (by kernel_rfl) (by kernel_rfl) (by
  intro args objs r h0
  obtain ⟨_, _, v, s, rfl, hv, hs, hR⟩ := con2_inv h0
  obtain rfl := ofInt_inv hv
  obtain rfl := ofInt_inv hs
  split at hR
  case isFalse => cases hR
  rename_i hc
  obtain ⟨h1, h2⟩ := hc
  cases hR
  obtain ⟨v0, v1⟩ := i64B_iff.1 h1
  refine .go _ rfl rfl ?_
  obtain ⟨x, hx⟩ : ∃ x, x = narrowR v s := ⟨_, rfl⟩
  have hd : (x == v) = decide (x = v) := rfl
  rcases h2 with rfl | rfl | rfl | rfl
  · have e : x = (v + 128) % 256 - 128 := hx
    have e1 : IntKind.i8.wrap v = x := by rw [e]; exact i8r v
    have e2 : IntKind.i64.wrap x = x := wrap_small (by omega) (by omega)
    rw [← hx]
    simp -implicitDefEqProofs [convV, e1, e2, hd]
  · have e : x = (v + 32768) % 65536 - 32768 := hx
    have e1 : IntKind.i16.wrap v = x := by rw [e]; exact i16r v
    have e2 : IntKind.i64.wrap x = x := wrap_small (by omega) (by omega)
    rw [← hx]
    simp -implicitDefEqProofs [convV, e1, e2, hd]
  · have e : x = (v + 2147483648) % 4294967296 - 2147483648 := hx
    have e1 : IntKind.i32.wrap v = x := by rw [e]; exact i32r v
    have e2 : IntKind.i64.wrap x = x := wrap_small (by omega) (by omega)
    rw [← hx]
    simp -implicitDefEqProofs [convV, e1, e2, hd]
  · have e : x = v := hx
    rw [← hx, e]
    simp -implicitDefEqProofs [convV])
noncomputable def k_holds : Ab.Spec := con2 (ofInt .i64) (ofInt .i64) fun k v _ => if i64B v = true ∧ 1 ≤ k ∧ k ≤ 6 then some (.bool (holdsR k v), none) else none
noncomputable def T_holds : CallF := withF T_Narrow 30 k_holds
theorem T_holds_ok : CallOk Try.prog T_holds := con_of (A := annOf [] [] [] false []) fit T_Narrow_ok (fn := Try.f30) (by kernel_rfl) (by kernel_rfl) (by
  intro args objs r h0
  have c_Narrow : ∀ a o, T_Narrow 50 a o = k_Narrow a o := fun _ _ => rfl
  obtain ⟨_, _, k, v, rfl, hk, hv, hR⟩ := con2_inv h0
  obtain rfl := ofInt_inv hk
  obtain rfl := ofInt_inv hv
  split at hR
  case isFalse => cases hR
  rename_i hc
  obtain ⟨h1, h2, h3⟩ := hc
  cases hR
  obtain ⟨v0, v1⟩ := i64B_iff.1 h1
  refine .go _ rfl rfl ?_
  have a0 : IntKind.i64.wrap 0 = 0 := rfl
  have a1 : IntKind.i64.wrap 1 = 1 := rfl
  have a2 : IntKind.i64.wrap 2 = 2 := rfl
  have a3 : IntKind.i64.wrap 3 = 3 := rfl
  have a4 : IntKind.i64.wrap 4 = 4 := rfl
  have a8 : IntKind.i64.wrap 8 = 8 := rfl
  have b0 : IntKind.u64.wrap 0 = 0 := rfl
  have b1 : IntKind.u64.wrap 1 = 1 := rfl
  have b2 : IntKind.u64.wrap 2 = 2 := rfl
  have b3 : IntKind.u64.wrap 3 = 3 := rfl
  obtain rfl | rfl | rfl | rfl | rfl | rfl : k = 1 ∨ k = 2 ∨ k = 3 ∨ k = 4 ∨ k = 5 ∨ k = 6 := by omega
  · have e : decide (narrowR v 1 = v) = holdsR 1 v := decide_eq_decide.2 (by show (v + 128) % 256 - 128 = v ↔ _; omega)
    simp -implicitDefEqProofs [convV, c_Narrow, k_Narrow, h1, e, a0, a1, a2, a3, a4, a8, b0, b1, b2, b3]
  · have e : decide (narrowR v 2 = v) = holdsR 2 v := decide_eq_decide.2 (by show (v + 32768) % 65536 - 32768 = v ↔ _; omega)
    simp -implicitDefEqProofs [convV, c_Narrow, k_Narrow, h1, e, a0, a1, a2, a3, a4, a8, b0, b1, b2, b3]
  · have e : decide (narrowR v 4 = v) = holdsR 3 v := decide_eq_decide.2 (by show (v + 2147483648) % 4294967296 - 2147483648 = v ↔ _; omega)
    simp -implicitDefEqProofs [convV, c_Narrow, k_Narrow, h1, e, a0, a1, a2, a3, a4, a8, b0, b1, b2, b3]
  · have e : decide (narrowR v 8 = v) = holdsR 4 v := by show decide (v = v) = true; simp
    simp -implicitDefEqProofs [convV, c_Narrow, k_Narrow, h1, e, a0, a1, a2, a3, a4, a8, b0, b1, b2, b3]
  · have e : (v == v % 65536) = holdsR 5 v := decide_eq_decide.2 (by omega)
    have e1 : IntKind.u16.wrap v = v % 65536 := u16r v
    have e2 : IntKind.i64.wrap (v % 65536) = v % 65536 := wrap_small (by omega) (by omega)
    simp -implicitDefEqProofs [convV, e1, e2, e]
  · have e : (v / 2 == 0) = holdsR 6 v := decide_eq_decide.2 (by omega)
    have e2 : v.fdiv 2 = v / 2 := Int.fdiv_eq_ediv_of_nonneg _ (by decide)
    simp -implicitDefEqProofs [convV, e2, e])

end Go.Proofs.Ytaibfjipombilaa.B
set_option maxRecDepth 20000
set_option maxHeartbeats 1000000
namespace Go.Proofs.Ytaibfjipombilaa.B
open Go Go.Ab
/-! what is got -/
structure CG where
  n : Bool
  i : Int
  b : Option (List Int)
  next : Int
  err : Int
  ex : Option (List Int)
def CG.bad (e : Int) : CG := ⟨false, 0, none, 0, e, none⟩
def cgetU (k : Int) (b : List Int) (u nx : Int) : CG :=
  if k ≤ 6 then (if holdsR k (M.unfoldI u) = true then ⟨false, M.unfoldI u, none, nx, 0, none⟩ else .bad 52)
  else if u > 200 then .bad 4 else if u > b.length - nx then .bad 2
  else if textR k ((b.drop nx.toNat).take u.toNat) ≠ 0 then ⟨false, 0, none, 0, textR k ((b.drop nx.toNat).take u.toNat), some ((b.drop nx.toNat).take u.toNat)⟩
  else ⟨false, 0, some ((b.drop nx.toNat).take u.toNat), nx + u, 0, some ((b.drop nx.toNat).take u.toNat)⟩
def cgetZ (k : Int) (b : List Int) (p : Int) : CG :=
  if k < 1 ∨ k > 8 ∨ p < 0 ∨ p > b.length then .bad 1 else if p = b.length then .bad 2 else if nth b p.toNat > 1 then .bad 5 else if nth b p.toNat = 0 then ⟨true, 0, none, p + 1, 0, none⟩
  else match M.getR b (p + 1) with | (u, nx, e) => if e ≠ 0 then .bad e else cgetU k b u nx
def cellK (o : Nat) (g : CG) : V := .agg [.bool g.n, .int .i64 g.i, match g.b with | none => .nils | some l => .ref (o + 1) 0 0 l.length 1]
def cellO (o : Nat) (g : CG) : List AO := .cells [.bool g.n, .int .i64 g.i, match g.b with | none => .nils | some l => .ref (o + 1) 0 0 l.length 1] 0 :: (match g.ex with | none => [] | some l => [.cells (ints .u8 l) 0])
theorem fitC0 : fillV (placeOf Try.prog 24) [.bool false, .int .i64 0, .nils] [] = some [.bool false, .int .i64 0, .nils] := rfl
theorem fitC1 : fillV (placeOf Try.prog 24) [.bool false, .int .i64 0, .nils] [(0, .bool true)] = some [.bool true, .int .i64 0, .nils] := by simp [fillV, setCells]
theorem fitC2 (a : Int) : fillV (placeOf Try.prog 24) [.bool false, .int .i64 0, .nils] [(1, .int .i64 a)] = some [.bool false, .int .i64 a, .nils] := by simp [fillV, setCells]
theorem fitC3 (v : V) (h : isDef v = true) (hc : cellsOf v = [v]) : fillV (placeOf Try.prog 24) [.bool false, .int .i64 0, .nils] [(2, v)] = some [.bool false, .int .i64 0, v] := by simp [fillV, setCells, h, hc]
theorem unf_range {u : Int} (h0 : 0 ≤ u) (h1 : u < 18446744073709551616) : i64B (M.unfoldI u) = true := by
  rw [i64B_iff]; unfold M.unfoldI; split <;> omega
noncomputable def k_CGetK : Ab.Spec := con3 (ofInt .i64) (ofInts .u8) (ofInt .i64) fun k b p objs => bnd b.length 140737488353000 (if b8 b = true then some (.tup [cellK objs.length (cgetZ k b p), .int .i64 (cgetZ k b p).next, .int .i64 (cgetZ k b p).err], some (objs ++ cellO objs.length (cgetZ k b p), objs.length)) else none)
noncomputable def T_CGetK : CallF := withF T_holds 19 k_CGetK
theorem T_CGetK_ok : CallOk Try.prog T_CGetK := con_of (A := annOf [] [] [(102, [.ref])] true []) fit T_holds_ok (fn := Try.f19) (by kernel_rfl) (by kernel_rfl) (by
  intro args objs r h0
  have c_known : ∀ a o, T_holds 28 a o = k_known a o := fun _ _ => rfl
  have c_VGet : ∀ a o, T_holds 40 a o = k_VGet a o := fun _ _ => rfl
  have c_Number : ∀ a o, T_holds 13 a o = k_Number a o := fun _ _ => rfl
  have c_Unfold : ∀ a o, T_holds 41 a o = k_Unfold a o := fun _ _ => rfl
  have c_holds : ∀ a o, T_holds 30 a o = k_holds a o := fun _ _ => rfl
  have c_CloneR : ∀ a o, T_holds 42 a o = k_CloneR a o := fun _ _ => rfl
  have c_ctext : ∀ a o, T_holds 29 a o = k_ctext a o := fun _ _ => rfl
  obtain ⟨_, v, _, k, b, p, rfl, hk, ha, hp, hR⟩ := con3_inv h0
  obtain rfl := ofInt_inv hk
  obtain rfl := ofInt_inv hp
  obtain ⟨hl, hR⟩ := bnd_inv hR
  split at hR
  case isFalse => cases hR
  rename_i h8
  cases hR
  have hBy := b8_bytes h8
  obtain ⟨vd, vn, vi, -⟩ := bs ha
  refine .goK _ rfl rfl rfl ?_
  by_cases hk1 : 1 ≤ k ∧ k ≤ 8
  case neg =>
    have hg : cgetZ k b p = .bad 1 := if_pos (by omega)
    have hkd : knownB k = false := decide_eq_false hk1
    simp (disch := omega) [c_known, k_known, hkd, hg, CG.bad, cellK, cellO, fitC0, setCells, getObj_last]
  have hkd : knownB k = true := decide_eq_true hk1
  by_cases h1 : p < 0
  · have hg : cgetZ k b p = .bad 1 := if_pos (by omega)
    simp (disch := omega) [c_known, k_known, hkd, h1, hg, CG.bad, cellK, cellO, fitC0, setCells, getObj_last]
  by_cases h2 : p > b.length
  · have hg : cgetZ k b p = .bad 1 := if_pos (by omega)
    simp (disch := omega) [c_known, k_known, hkd, vn, h1, h2, hg, CG.bad, cellK, cellO, fitC0, setCells, getObj_last]
  obtain ⟨q, rfl⟩ := Int.eq_ofNat_of_zero_le (show 0 ≤ p by omega)
  have h0' : ¬ (k < 1 ∨ k > 8 ∨ (q : Int) < 0 ∨ (q : Int) > b.length) := by omega
  have hqn : ¬ b.length < q := by omega
  by_cases h3 : q = b.length
  · subst h3
    have hg : cgetZ k b (b.length : Int) = .bad 2 := by unfold cgetZ; rw [if_neg h0', if_pos rfl]
    simp (disch := omega) [c_known, k_known, hkd, vn, hg, CG.bad, cellK, cellO, fitC0, setCells, getObj_last]
  have hql : q < b.length := by omega
  have h3' : ¬ (q : Int) = b.length := by omega
  have i1 := vi .i64 q (by omega) (by omega)
  rw [Int.toNat_natCast] at i1
  have en := ints_nth (k := .u8) hql
  have en' := of_get en
  obtain ⟨c, hc⟩ : ∃ c, c = nth b q := ⟨_, rfl⟩
  have hcr := hBy _ (nth_mem hql)
  have hg0 : cgetZ k b (q : Int) = if c > 1 then .bad 5 else if c = 0 then ⟨true, 0, none, (q : Int) + 1, 0, none⟩ else match M.getR b ((q : Int) + 1) with | (u, nx, e) => if e ≠ 0 then .bad e else cgetU k b u nx := by
    unfold cgetZ; rw [if_neg h0', if_neg h3', Int.toNat_natCast, ← hc]
  rw [← hc] at en en' hcr
  have wq : IntKind.i64.wrap ((q : Int) + 1) = (q : Int) + 1 := wrap_small (by omega) (by omega)
  by_cases h4 : c > 1
  · rw [if_pos h4] at hg0
    simp (disch := omega) [c_known, k_known, hkd, vn, hqn, h3, h3', i1, en, en', hql, h4, hg0, CG.bad, cellK, cellO, fitC0, setCells, getObj_last]
  rw [if_neg h4] at hg0
  by_cases h5 : c = 0
  · rw [if_pos h5] at hg0
    rw [h5] at en en'
    simp (disch := omega) [c_known, k_known, hkd, vn, hqn, h3, h3', i1, en, en', hql, hg0, wq, cellK, cellO, fitC1, setCells, getObj_last]
  rw [if_neg h5] at hg0
  have h51 : c = 1 := by omega
  rw [h51] at en en'
  obtain ⟨u, nx, e, hg⟩ : ∃ u nx e, M.getR b ((q : Int) + 1) = (u, nx, e) := ⟨_, _, _, rfl⟩
  have gv : getVR b ((q : Int) + 1) = some (.tup [.int .u64 u, .int .i64 nx, .int .i64 e], none) := by unfold getVR; rw [hg]
  rw [hg] at hg0
  simp only at hg0
  by_cases he : e = 0
  case neg =>
    rw [if_pos he] at hg0
    have he' : (e != 0) = true := by simpa using he
    simp -implicitDefEqProofs (disch := omega) [c_known, k_known, hkd, vn, hqn, h3, h3', i1, en, en', hql, wq, vd, ha, c_VGet, k_VGet, h8, gv, he, he', hg0, CG.bad, cellK, cellO, fitC0, setCells, getObj_last]
  subst he
  rw [if_neg (by simp)] at hg0
  obtain ⟨g1, g2, g3, g4, g5, g6, -⟩ := M.getR_ok hBy hg
  have hur := unf_range g5 g6
  have hun : unfR u = some (.int .i64 (M.unfoldI u), none) := if_pos ⟨g5, g6⟩
  obtain ⟨k1, k8⟩ := hk1
  by_cases hk6 : k ≤ 6
  · have hnd : numB k = true := decide_eq_true ⟨k1, hk6⟩
    unfold cgetU at hg0
    rw [if_pos hk6] at hg0
    by_cases hh : holdsR k (M.unfoldI u) = true
    · rw [if_pos hh] at hg0
      simp -implicitDefEqProofs (disch := omega) [c_known, k_known, hkd, vn, hqn, h3, h3', i1, en, en', hql, wq, vd, ha, c_VGet, k_VGet, h8, gv, c_Number, k_Number, hnd, c_Unfold, k_Unfold, hun, c_holds, k_holds, hur, k1, hk6, hh, hg0, cellK, cellO, fitC2, setCells, getObj_last]
    · rw [if_neg hh] at hg0
      have hh : holdsR k (M.unfoldI u) = false := by simpa using hh
      simp -implicitDefEqProofs (disch := omega) [c_known, k_known, hkd, vn, hqn, h3, h3', i1, en, en', hql, wq, vd, ha, c_VGet, k_VGet, h8, gv, c_Number, k_Number, hnd, c_Unfold, k_Unfold, hun, c_holds, k_holds, hur, k1, hk6, hh, hg0, CG.bad, cellK, cellO, fitC0, setCells, getObj_last]
  have hnd : numB k = false := decide_eq_false fun q => hk6 q.2
  unfold cgetU at hg0
  rw [if_neg hk6] at hg0
  by_cases hu : u > 200
  · rw [if_pos hu] at hg0
    simp -implicitDefEqProofs (disch := omega) [c_known, k_known, hkd, vn, hqn, h3, h3', i1, en, en', hql, wq, vd, ha, c_VGet, k_VGet, h8, gv, c_Number, k_Number, hnd, hu, hg0, CG.bad, cellK, cellO, fitC0, setCells, getObj_last]
  rw [if_neg hu] at hg0
  obtain ⟨U, rfl⟩ := Int.eq_ofNat_of_zero_le g5
  obtain ⟨nx, rfl⟩ := Int.eq_ofNat_of_zero_le (show 0 ≤ nx by omega)
  simp only [Int.toNat_natCast] at hg0
  have wu : IntKind.i64.wrap (U : Int) = U := wrap_small (by omega) (by omega)
  have wb : IntKind.i64.wrap ((b.length : Int) - nx) = (b.length : Int) - nx := wrap_small (by omega) (by omega)
  have wnu : IntKind.i64.wrap ((nx : Int) + U) = (nx : Int) + U := wrap_small (by omega) (by omega)
  have hu' : ¬ 200 < U := by omega
  by_cases hs : (U : Int) > b.length - nx
  · rw [if_pos hs] at hg0
    simp -implicitDefEqProofs (disch := omega) [c_known, k_known, hkd, vn, hqn, h3, h3', i1, en, en', hql, wq, vd, ha, c_VGet, k_VGet, h8, gv, c_Number, k_Number, hnd, hu', convV, wu, wb, hs, hg0, CG.bad, cellK, cellO, fitC0, setCells, getObj_last]
  rw [if_neg hs] at hg0
  obtain ⟨B0, hB0⟩ : ∃ B0 : List AO, B0 = objs ++ [.cells [.bool false, .int .i64 0, .nils] 0] := ⟨_, rfl⟩
  have hvn : isNils v = false := by
    rcases ofInts_inv ha with rfl | ⟨rfl, -, h⟩
    · rfl
    · omega
  obtain ⟨w1, cw1, dw1, nw1, mw1, -⟩ := cutR (ofIntsR_of (objs := B0) ha) (some (.int .i64 (nx : Int))) (some (.int .i64 ((nx : Int) + U))) none nx (nx + U) (by simp [boundV]) (by simp [boundV]; omega) (by omega) (by omega) (.inl rfl)
  have hdt : (b.take (nx + U)).drop nx = (b.drop nx).take U := by rw [List.drop_take, Nat.add_sub_cancel_left]
  rw [hvn] at nw1
  rw [hdt, hB0] at dw1
  obtain ⟨S, hS⟩ : ∃ S, S = (b.drop nx).take U := ⟨_, rfl⟩
  have hSl : S.length = U := by rw [hS, List.length_take, List.length_drop]; omega
  have hS8 : b8 S = true := b8_iff.2 fun c hc => hBy c (by rw [hS] at hc; exact List.mem_of_mem_drop (List.mem_of_mem_take hc))
  rw [← hS] at dw1 hg0
  have eS : ofIntsR .u8 (objs ++ [.cells [.bool false, .int .i64 0, .nils] 0, .cells (ints .u8 S) 0]) (.ref (objs.length + 1) 0 0 U 1) = some S := ofIntsR_ref (by simp) hSl.symm
  have fc := fitC3 (.ref (objs.length + 1) 0 0 U 1) rfl rfl
  by_cases hx : textR k S = 0
  · rw [if_neg (by simp [hx])] at hg0
    simp -implicitDefEqProofs (disch := omega) [c_known, k_known, hkd, vn, hqn, h3, h3', i1, en, en', hql, wq, vd, ha, c_VGet, k_VGet, h8, gv, c_Number, k_Number, hnd, hu', convV, wu, wb, wnu, hs, cw1, mw1, c_CloneR, k_CloneR, dw1, nw1, hSl, c_ctext, k_ctext, eS, hS8, hx, fc, hg0, cellK, cellO, setCells, getObj_last]
  · rw [if_pos hx] at hg0
    have hx' : (textR k S != 0) = true := by simpa using hx
    simp -implicitDefEqProofs (disch := omega) [c_known, k_known, hkd, vn, hqn, h3, h3', i1, en, en', hql, wq, vd, ha, c_VGet, k_VGet, h8, gv, c_Number, k_Number, hnd, hu', convV, wu, wb, wnu, hs, cw1, mw1, c_CloneR, k_CloneR, dw1, nw1, hSl, c_ctext, k_ctext, eS, hS8, hx, hx', fitC0, hg0, cellK, cellO, setCells, getObj_last])

end Go.Proofs.Ytaibfjipombilaa.B
