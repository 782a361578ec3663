import Derived.Test.YtmoegiibdaomlaaFr5
set_option linter.unusedSimpArgs false
set_option linter.unusedVariables false
set_option linter.unusedSectionVars false
set_option maxRecDepth 20000
set_option maxHeartbeats 1000000
namespace Go.Proofs.Ytmoegiibdaomlaa.B
open Go Go.Ab
/-! what a law is handed -/
def b8 (l : List Int) : Bool := l.all fun c => decide (0 ≤ c) && decide (c < 256)
theorem b8_iff {l : List Int} : b8 l = true ↔ ∀ c ∈ l, 0 ≤ c ∧ c < 256 := by simp [b8]
theorem wf_u8 {l : List Int} (h : ∀ c ∈ l, (Lit.int .u8 c).wf = true) : b8 l = true := b8_iff.2 fun c hc => by
  have := h c hc
  simp [Lit.wf, IntKind.min, IntKind.max] at this
  omega

/-! frame.Put and what it makes -/
def b4Z (n : Int) : List Int := [IntKind.u8.wrap n, IntKind.u8.wrap (n.fdiv 256), IntKind.u8.wrap (n.fdiv 65536), IntKind.u8.wrap (n.fdiv 16777216)]
def leadZ (kind n : Int) : List Int := [IntKind.u8.wrap kind, IntKind.u8.wrap n, IntKind.u8.wrap (n.fdiv 256), IntKind.u8.wrap (n.fdiv 65536), IntKind.u8.wrap (n.fdiv 16777216)]
def frameZ (kind : Int) (l : List Int) : List Int := sealZ (leadZ kind l.length) ++ sealZ l
def putErr (kind : Int) (l : List Int) : Int := if kind < 1 ∨ kind > 255 then 1 else if l.length > 65536 then 4 else 0
theorem leadZ_len (k n : Int) : (leadZ k n).length = 5 := rfl
theorem frameZ_len (kind : Int) (l : List Int) : (frameZ kind l).length = l.length + 13 := by simp [frameZ, sealZ_len, leadZ_len]; omega
theorem lit5 (a b c d e : Int) : listV Try.prog 22 5 [(0, .int .u8 a), (1, .int .u8 b), (2, .int .u8 c), (3, .int .u8 d), (4, .int .u8 e)] = some (ints .u8 [a, b, c, d, e], 1) := by simp [listV, fillV, zeros, setCells, ints, List.replicate]
noncomputable def k_fPut : Ab.Spec := con2 (ofInt .i64) (ofInts .u8) fun kind l _ => bnd l.length 140737488353000 (some (if putErr kind l = 0 then .tup [.lst (.fresh 1 false) (ints .u8 (frameZ kind l)) (l.length + 13), .int .i64 0] else .tup [.nils, .int .i64 (putErr kind l)], none))
noncomputable def T_fPut : CallF := withF T_Turn 12 k_fPut
theorem T_fPut_ok : CallOk Try.prog T_fPut := con_of (A := annOf [] [] [(36, [.tok])] false []) fit T_Turn_ok (fn := Try.f12) (by kernel_rfl) (by kernel_rfl) (by
  intro args objs r h0
  have c_Seal : ∀ a o, T_Turn 30 a o = k_Seal a o := fun _ _ => rfl
  obtain ⟨_, v, kind, l, rfl, hk, ha, hR⟩ := con2_inv h0
  obtain rfl := ofInt_inv hk
  obtain ⟨hl, hR⟩ := bnd_inv hR
  cases hR
  obtain ⟨vd, vn, vi, va, -⟩ := bs ha
  refine .go _ rfl rfl ?_
  by_cases h1 : kind < 1
  · have he : putErr kind l = 1 := by simp [putErr, h1]
    simp (disch := omega) [he]
  by_cases h2 : kind > 255
  · have he : putErr kind l = 1 := by simp [putErr, h2]
    simp (disch := omega) [he]
  by_cases h3 : l.length > 65536
  · have he : putErr kind l = 4 := by simp [putErr, h3]; omega
    have h3' : (65536 : Int) < l.length := by omega
    simp (disch := omega) [he, vn]
  have he : putErr kind l = 0 := by simp [putErr]; omega
  have w : IntKind.u32.wrap (l.length : Int) = l.length := wrap_u32 (by omega) (by omega)
  have e1 : ofInts .u8 (.lst .frozen (ints .u8 (leadZ kind l.length)) 5) = some (leadZ kind l.length) := ofInts_lst rfl
  have e1' := e1
  unfold leadZ at e1'
  have e2 : ofInts .u8 (.lst .frozen (ints .u8 (sealZ l)) (l.length + 4)) = some (sealZ l) := ofInts_lst (by rw [sealZ_len])
  have hsl := sealZ_len l
  have hs5 : (sealZ (leadZ kind l.length)).length = 9 := by rw [sealZ_len]; rfl
  have hfl : leadZ kind l.length = [IntKind.u8.wrap kind, IntKind.u8.wrap l.length, IntKind.u8.wrap ((l.length : Int).fdiv 256), IntKind.u8.wrap ((l.length : Int).fdiv 65536), IntKind.u8.wrap ((l.length : Int).fdiv 16777216)] := rfl
  rw [hfl] at hs5
  simp -implicitDefEqProofs (disch := omega) [he, vn, vd, ha, w, convV, lit5, e1', c_Seal, k_Seal, hs5, hsl, Nat.mod_one, frameZ, hfl]
  omega)
noncomputable def k_fSize : Ab.Spec := con1 (ofInt .i64) fun n _ => some (.int .i64 (if n < 0 ∨ n > 65536 then 0 else n + 13), none)
noncomputable def T_fSize : CallF := withF T_fPut 15 k_fSize
theorem T_fSize_ok : CallOk Try.prog T_fSize := con_of (A := annOf [] [] [] false []) fit T_fPut_ok (fn := Try.f15) (by kernel_rfl) (by kernel_rfl) (by
  intro args objs r h0
  obtain ⟨_, n, rfl, hn, hR⟩ := con1_inv h0
  obtain rfl := ofInt_inv hn
  cases hR
  refine .go _ rfl rfl ?_
  by_cases h1 : n < 0
  · simp (disch := omega) [h1]
  by_cases h2 : n > 65536
  · simp (disch := omega) [h1, h2]
  have h3 : ¬ (n < 0 ∨ n > 65536) := by omega
  rw [if_neg h3]
  simp (disch := omega) [wrap_small])
def isNils : V → Bool | .nils => true | _ => false
def ofBN (v : V) : Option (Bool × List Int) := (ofInts .u8 v).map fun l => (isNils v, l)
theorem ofBN_inv {v : V} {x : Bool × List Int} (h : ofBN v = some x) : (v = .nils ∧ x = (true, [])) ∨ (v = .lst .frozen (ints .u8 x.2) x.2.length ∧ x.1 = false) := by
  obtain ⟨l, hl, rfl⟩ := Option.map_eq_some_iff.1 h
  rcases ofInts_inv hl with rfl | ⟨rfl, h1, h2⟩
  · exact .inr ⟨rfl, rfl⟩
  · left
    have : l = [] := List.eq_nil_of_length_eq_zero h2
    exact ⟨rfl, by rw [this]; rfl⟩
theorem ofBN_lst {l : List Int} {n : Nat} (h : n = l.length) : ofBN (.lst .frozen (ints .u8 l) n) = some (false, l) := by simp [ofBN, ofInts_lst h, isNils]
noncomputable def k_Clone : Ab.Spec := con1 ofBN fun x _ => bnd x.2.length 140737488355300 (some (if x.1 = true then .nils else .lst (.fresh 1 true) (ints .u8 x.2) x.2.length, none))
noncomputable def T_Clone : CallF := withF T_fSize 34 k_Clone
theorem T_Clone_ok : CallOk Try.prog T_Clone := con_of (A := annOf [] [5,7] [] false []) fit T_fSize_ok (fn := Try.f34) (by kernel_rfl) (by kernel_rfl) (by
  intro args objs r h0
  obtain ⟨v, x, rfl, ha, hR⟩ := con1_inv h0
  obtain ⟨hl, hR⟩ := bnd_inv hR
  cases hR
  refine .go _ rfl rfl ?_
  rcases ofBN_inv ha with ⟨rfl, rfl⟩ | ⟨rfl, hx⟩
  · simp [nilFit, nilEq]
  · simp (disch := omega) [nilFit, nilEq, hx, blit0, Nat.mod_one, getObj_last])
/-! frame.Get -/
def nZ (r : List Int) : Int := Go.bits .or .u32 (Go.bits .or .u32 (Go.bits .or .u32 (IntKind.u32.wrap (nth r 1)) (IntKind.u32.wrap (IntKind.u32.wrap (nth r 2) * 256))) (IntKind.u32.wrap (IntKind.u32.wrap (nth r 3) * 65536))) (IntKind.u32.wrap (IntKind.u32.wrap (nth r 4) * 16777216))
structure Got where
  kind : Int
  body : Option (List Int)
  next : Int
  err : Int
def Got.bad (e : Int) : Got := ⟨0, none, 0, e⟩
def restZ (r : List Int) (at_ : Int) : Got :=
  if r.length < 9 then .bad 2
  else if sealedB (r.take 9) = false then .bad 40
  else if nth r 0 = 0 then .bad 5
  else if nZ r > 65536 then .bad 4
  else if nZ r > (r.length : Int) - 13 then .bad 2
  else if sealedB ((r.take ((nZ r).toNat + 13)).drop 9) = false then .bad 40
  else ⟨nth r 0, some ((r.take ((nZ r).toNat + 9)).drop 9), at_ + (nZ r + 13), 0⟩
def getZ (l : List Int) (at_ : Int) : Got := if at_ < 0 ∨ at_ > l.length then .bad 1 else restZ (l.drop at_.toNat) at_
def bodyV (k : LK) : Option (List Int) → V | none => .nils | some l => .lst k (ints .u8 l) l.length
def frameV (g : Got) : V := .agg [.int .i64 g.kind, bodyV .frozen g.body]
theorem fit35 (a b : V) (ha : isDef a = true) (hb : isDef b = true) (ca : cellsOf a = [a]) (cb : cellsOf b = [b]) : fillV (placeOf Try.prog 35) [.int .i64 0, .nils] [(0, a), (1, b)] = some [a, b] := by simp [fillV, ha, hb, ca, cb, setCells]
theorem fit35' : fillV (placeOf Try.prog 35) [.int .i64 0, .nils] [] = some [.int .i64 0, .nils] := rfl
theorem or_r (a b : Int) : R32 (Go.bits .or .u32 a b) := by
  have h := Go.bits_within .or .u32 a b
  have h1 : IntKind.u32.min = 0 := rfl
  have h2 : IntKind.u32.max = 4294967295 := rfl
  rw [h1, h2] at h
  exact ⟨h.1, by omega⟩
theorem nZ_range (r : List Int) : 0 ≤ nZ r ∧ nZ r < 4294967296 := or_r _ _
noncomputable def k_fGet : Ab.Spec := con2 (ofInts .u8) (ofInt .i64) fun l p _ => bnd l.length 140737488353000 (if b8 l = true then some (.tup [frameV (getZ l p), .int .i64 (getZ l p).next, .int .i64 (getZ l p).err], none) else none)
noncomputable def T_fGet : CallF := withF T_Clone 16 k_fGet
theorem T_fGet_ok : CallOk Try.prog T_fGet := con_of (A := annOf [] [] [] false []) fit T_Clone_ok (fn := Try.f16) (by kernel_rfl) (by kernel_rfl) (by
  intro args objs r h0
  have c_Sealed : ∀ a o, T_Clone 33 a o = k_Sealed a o := fun _ _ => rfl
  have c_Clone : ∀ a o, T_Clone 34 a o = k_Clone a o := fun _ _ => rfl
  obtain ⟨v, _, l, p, rfl, ha, hp, hR⟩ := con2_inv h0
  obtain rfl := ofInt_inv hp
  obtain ⟨hl, hR⟩ := bnd_inv hR
  split at hR
  case isFalse => cases hR
  rename_i h8
  cases hR
  obtain ⟨vd, vn, vi, -⟩ := bs ha
  refine .go _ rfl rfl ?_
  by_cases h1 : p < 0
  · have hg : getZ l p = .bad 1 := by simp [getZ, h1]
    simp (disch := omega) [hg, Got.bad, frameV, bodyV, fit35', setCells, getObj_last]
  by_cases h2 : p > l.length
  · have hg : getZ l p = .bad 1 := by simp [getZ, h2]
    simp (disch := omega) [vn, hg, Got.bad, frameV, bodyV, fit35', setCells, getObj_last]
  obtain ⟨q, rfl⟩ := Int.eq_ofNat_of_zero_le (show 0 ≤ p by omega)
  have hql : q ≤ l.length := by omega
  have hg : getZ l (q : Int) = restZ (l.drop q) q := by simp [getZ]; omega
  obtain ⟨w, cw, dw⟩ := bcut ha (objs ++ [.cells [.int .i64 0, .nils] 0]) (some (.int .i64 (q : Int))) none q l.length (by simp [boundV]) (by simp [boundV]) hql (Nat.le_refl _)
  rw [List.take_length] at dw
  have hrl : (l.drop q).length = l.length - q := by simp
  obtain ⟨r, hr⟩ : ∃ r, r = l.drop q := ⟨_, rfl⟩
  rw [← hr] at dw hg hrl
  obtain ⟨wd, wn, wi, -⟩ := bs dw
  rw [hg]
  by_cases h3 : r.length < 9
  · have hg : restZ r q = .bad 2 := by simp [restZ, h3]
    simp (disch := omega) [vn, cw, wn, hg, Got.bad, frameV, bodyV, fit35', setCells, getObj_last]
  have i0 := fun k => wi k 0 (by omega) (by omega)
  have i1 := fun k => wi k 1 (by omega) (by omega)
  have i2 := fun k => wi k 2 (by omega) (by omega)
  have i3 := fun k => wi k 3 (by omega) (by omega)
  have i4 := fun k => wi k 4 (by omega) (by omega)
  have hnz : Go.bits .or .u32 (Go.bits .or .u32 (Go.bits .or .u32 (IntKind.u32.wrap (nth r 1)) (IntKind.u32.wrap (IntKind.u32.wrap (nth r 2) * 256))) (IntKind.u32.wrap (IntKind.u32.wrap (nth r 3) * 65536))) (IntKind.u32.wrap (IntKind.u32.wrap (nth r 4) * 16777216)) = nZ r := rfl
  obtain ⟨m, hm⟩ := Int.eq_ofNat_of_zero_le (nZ_range r).1
  have hm2 := (nZ_range r).2
  rw [hm] at hnz hm2
  have wz : IntKind.i64.wrap (m : Int) = m := wrap_small (by omega) (by omega)
  obtain ⟨w9, c9, d9⟩ := bcut dw (objs ++ [.cells [.int .i64 0, .nils] 0]) none (some (.int .i64 9)) 0 9 rfl (by simp [boundV]) (by omega) (by omega)
  rw [List.drop_zero] at d9
  obtain ⟨x9, -⟩ := bs d9
  have hl9 : (r.take 9).length < 140737488355000 := by simp; omega
  have base : restZ r q = if sealedB (r.take 9) = false then .bad 40
    else if nth r 0 = 0 then .bad 5
    else if m > 65536 then .bad 4
    else if (m : Int) > (r.length : Int) - 13 then .bad 2
    else if sealedB ((r.take (m + 13)).drop 9) = false then .bad 40
    else ⟨nth r 0, some ((r.take (m + 9)).drop 9), q + ((m : Int) + 13), 0⟩ := by
    unfold restZ
    rw [if_neg h3, hm]
    simp only [Int.toNat_natCast]
    have : ((m : Int) > 65536) ↔ m > 65536 := by omega
    simp only [this]
  by_cases s1 : sealedB (r.take 9) = false
  · rw [if_pos s1] at base
    simp -implicitDefEqProofs (disch := omega) [vn, cw, wn, i0, i1, i2, i3, i4, ints_nth, hnz, convV, c9, x9, d9, hl9, c_Sealed, k_Sealed, s1, base, Got.bad, frameV, bodyV, fit35', setCells, getObj_last]
  rw [if_neg s1] at base
  have s1 : sealedB (r.take 9) = true := by simpa using s1
  by_cases z : nth r 0 = 0
  · rw [if_pos z] at base
    simp -implicitDefEqProofs (disch := omega) [vn, cw, wn, i0, i1, i2, i3, i4, ints_nth, hnz, convV, c9, x9, d9, hl9, c_Sealed, k_Sealed, s1, z, base, Got.bad, frameV, bodyV, fit35', setCells, getObj_last]
  rw [if_neg z] at base
  by_cases b1 : m > 65536
  · rw [if_pos b1] at base
    simp -implicitDefEqProofs (disch := omega) [vn, cw, wn, i0, i1, i2, i3, i4, ints_nth, hnz, convV, c9, x9, d9, hl9, c_Sealed, k_Sealed, s1, z, base, Got.bad, frameV, bodyV, fit35', setCells, getObj_last]
  rw [if_neg b1] at base
  have w13 : IntKind.i64.wrap ((r.length : Int) - 13) = (r.length : Int) - 13 := wrap_small (by omega) (by omega)
  by_cases b2 : (m : Int) > (r.length : Int) - 13
  · rw [if_pos b2] at base
    simp -implicitDefEqProofs (disch := omega) [vn, cw, wn, i0, i1, i2, i3, i4, ints_nth, hnz, convV, c9, x9, d9, hl9, c_Sealed, k_Sealed, s1, z, wz, w13, base, Got.bad, frameV, bodyV, fit35', setCells, getObj_last]
  rw [if_neg b2] at base
  have we : IntKind.i64.wrap ((m : Int) + 13) = (m : Int) + 13 := wrap_small (by omega) (by omega)
  obtain ⟨wb, cb, db⟩ := bcut dw (objs ++ [.cells [.int .i64 0, .nils] 0]) (some (.int .i64 9)) (some (.int .i64 ((m : Int) + 13))) 9 (m + 13) (by simp [boundV]) (by simp [boundV]; omega) (by omega) (by omega)
  obtain ⟨xb, -⟩ := bs db
  have hlb : ((r.take (m + 13)).drop 9).length < 140737488355000 := by simp; omega
  by_cases s2 : sealedB ((r.take (m + 13)).drop 9) = false
  · rw [if_pos s2] at base
    simp -implicitDefEqProofs (disch := omega) [vn, cw, wn, i0, i1, i2, i3, i4, ints_nth, hnz, convV, c9, x9, d9, hl9, c_Sealed, k_Sealed, s1, z, wz, w13, we, cb, xb, db, hlb, s2, base, Got.bad, frameV, bodyV, fit35', setCells, getObj_last]
  rw [if_neg s2] at base
  have s2 : sealedB ((r.take (m + 13)).drop 9) = true := by simpa using s2
  have w4 : IntKind.i64.wrap ((m : Int) + 13 - 4) = (m : Int) + 9 := by rw [wrap_small (by omega) (by omega)]; omega
  have wq : IntKind.i64.wrap ((q : Int) + ((m : Int) + 13)) = (q : Int) + ((m : Int) + 13) := wrap_small (by omega) (by omega)
  have hb0 : 0 ≤ nth r 0 ∧ nth r 0 < 256 := by
    have h := b8_iff.1 h8
    rw [hr, nth_drop]
    exact h _ (nth_mem (by omega))
  have w0 : IntKind.i64.wrap (nth r 0) = nth r 0 := wrap_small (by omega) (by omega)
  have cc : cutV Try.prog 22 (objs ++ [.cells [.int .i64 0, .nils] 0]) w (some (.int .i64 9)) (some (.int .i64 ((m : Int) + 9))) none = some (.lst .frozen (ints .u8 ((r.take (m + 9)).drop 9)) ((r.take (m + 9)).drop 9).length) := by
    rcases ofInts_inv dw with rfl | ⟨-, -, hn⟩
    · have h1 : (0 : Int) ≤ (m : Int) + 9 := by omega
      have h2 : ((m : Int) + 9).toNat = m + 9 := by omega
      have h4 : m + 9 ≤ r.length := by omega
      have h5 : m + 9 - 9 = min (m + 9) r.length - 9 := by omega
      simp [cutV, sliceV, boundV, h1, h2, h4, h5]
    · omega
  obtain ⟨body, hbody⟩ : ∃ body, body = (r.take (m + 9)).drop 9 := ⟨_, rfl⟩
  rw [← hbody] at cc base
  have hbl : body.length < 140737488355300 := by rw [hbody]; simp; omega
  have fb := fit35 (.int .i64 (nth r 0)) (.lst .frozen (ints .u8 body) body.length) rfl rfl rfl rfl
  have ob := ofBN_lst (l := body) rfl
  simp -implicitDefEqProofs (disch := omega) [vn, cw, wn, i0, i1, i2, i3, i4, ints_nth, hnz, convV, c9, x9, d9, hl9, c_Sealed, k_Sealed, s1, z, wz, w13, we, cb, xb, db, hlb, s2, w4, wq, w0, cc, c_Clone, k_Clone, ob, hbl, fb, base, frameV, bodyV, setCells, getObj_last])

end Go.Proofs.Ytmoegiibdaomlaa.B
