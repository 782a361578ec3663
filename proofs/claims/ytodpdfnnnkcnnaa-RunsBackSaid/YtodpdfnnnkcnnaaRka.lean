import Derived.Test.YtodpdfnnnkcnnaaRk9
set_option linter.unusedSimpArgs false
set_option linter.unusedVariables false
set_option linter.unusedSectionVars false
set_option maxRecDepth 20000
set_option maxHeartbeats 1000000
namespace Go.Proofs.Ytodpdfnnnkcnnaa.B
open Go Go.Ab
theorem dn_len {b : List Int} {a0 : Int} : ∀ i, (dn b a0 i).2.1.length ≤ 4096
  | 0 => by simp [dn]
  | i + 1 => by
    have ih := dn_len (b := b) (a0 := a0) i
    rw [dn]
    repeat' split
    all_goals first | assumption | (simp; done) | (simp; omega)
theorem decZ_len {b : List Int} : (decZ b).2.length ≤ 4096 := by
  unfold decZ
  repeat' split
  all_goals first | (simp; done) | exact dn_len _
theorem decZ_err {b : List Int} (h : (decZ b).1 ≠ 0) : (decZ b).2 = [] := by
  unfold decZ at h ⊢
  split
  · rfl
  · rename_i q; rw [if_neg q] at h
    split
    · rfl
    · rename_i q; rw [if_neg q] at h
      split
      · rfl
      · rename_i q; rw [if_neg q] at h
        split
        · rfl
        · rename_i q; rw [if_neg q] at h; exact absurd rfl h

def r64 (l : List Int) : Bool := l.all fun c => decide (-9223372036854775808 ≤ c) && decide (c < 9223372036854775808)
theorem r64_iff {l : List Int} : r64 l = true ↔ ∀ c ∈ l, -9223372036854775808 ≤ c ∧ c < 9223372036854775808 := by simp [r64]
theorem in_nums {D M n : Nat} {v : V} (h : ShpV Try.prog D M n 22 v) : ∃ l, ofInts .i64 v = some l ∧ r64 l = true ∧ l.length * 8 ≤ 140737488351232 ∧ (M = 0 ∨ l.length ≤ M) := by
  have hg : Ab.isAgg Try.prog 22 = false := by kernel_rfl
  have h2 : Shp Try.prog D M n 22 v := by unfold ShpV at h; rwa [if_neg (by rw [hg]; simp)] at h
  obtain ⟨l, l1, l2, l3, l4⟩ := shp_ints u22 u2 h2
  have hb : Try.prog.bytesOf 2 = 8 := by kernel_rfl
  rw [hb] at l3
  exact ⟨l, l1, r64_iff.2 fun c hc => wf_i64 (l2 c hc), by omega, l4⟩

theorem b8_put {u : Nat} : ∀ c ∈ M.putL u, 0 ≤ c ∧ c < 256 := M.putL_bytes (u + 1) u (by omega)
theorem b8_enc (rs : List (Int × Int)) : b8 (encL rs) = true := b8_iff.2 fun c hc => by
  unfold encL at hc
  rcases List.mem_append.1 hc with q | q
  · exact b8_put c q
  · obtain ⟨r, _, hr⟩ := List.mem_flatMap.1 q
    rcases List.mem_append.1 hr with q | q
    · exact b8_put c q
    · exact b8_put c q
theorem b8_snoc {l : List Int} (h : b8 l = true) : b8 (l ++ [1]) = true := b8_iff.2 fun c hc => by
  rcases List.mem_append.1 hc with q | q
  · exact b8_iff.1 h c q
  · simp at q; omega
theorem r64_expd {rs : List (Int × Int)} (h : Runs rs) : r64' (expd rs) = true := r64'_iff.2 fun c hc => by
  obtain ⟨r, hr, hc⟩ := List.mem_flatMap.1 hc
  rw [List.eq_of_mem_replicate hc]
  exact h.rng r hr
theorem enc_len {rs : List (Int × Int)} (hp : ∀ r ∈ rs, (runB r).length ≤ 20) (hn : rs.length ≤ 4096) : (encL rs).length ≤ 90000 := by
  have h1 := encT_len hp rs.length (Nat.le_refl _)
  have h2 := M.putL_len10 (u := rs.length) (by omega)
  rw [List.take_length] at h1
  unfold encL
  rw [List.length_append]
  omega
noncomputable def k_RunsBack : Ab.Spec := con2 (ofInts .i64) (ofInts .u8) fun l b objs => match objs with | [] => bnd (l.length + b.length) 281474976700000 (if r64' l = true ∧ b8 b = true ∧ l.length < 140737488355000 ∧ b.length < 140737488355000 then some (.bool true, none) else none) | _ => none
noncomputable def T_RunsBack : CallF := withF T_Encode 6 k_RunsBack
theorem T_RunsBack_ok : CallOk Try.prog T_RunsBack := con_of (A := annOf [] [] [] false []) fit T_Encode_ok (fn := Try.f6) (by kernel_rfl) (by kernel_rfl) (by
  intro args objs r h0
  have c_alive : ∀ a o, T_Encode 8 a o = k_alive a o := fun _ _ => rfl
  have c_Split : ∀ a o, T_Encode 10 a o = k_Split a o := fun _ _ => rfl
  have c_Encode : ∀ a o, T_Encode 13 a o = k_Encode a o := fun _ _ => rfl
  have c_Join : ∀ a o, T_Encode 17 a o = k_Join a o := fun _ _ => rfl
  have c_Decode : ∀ a o, T_Encode 21 a o = k_Decode a o := fun _ _ => rfl
  have c_Cat : ∀ a o, T_Encode 24 a o = k_Cat a o := fun _ _ => rfl
  have c_Same8 : ∀ a o, T_Encode 16 a o = k_Same8 a o := fun _ _ => rfl
  have c_Copy : ∀ a o, T_Encode 25 a o = k_Copy a o := fun _ _ => rfl
  have c_Same : ∀ a o, T_Encode 26 a o = k_Same a o := fun _ _ => rfl
  obtain ⟨v, u, l, b, rfl, ha, hb, hR⟩ := con2_inv h0
  split at hR
  case h_2 => cases hR
  obtain ⟨hlb, hR⟩ := bnd_inv hR
  split at hR
  case isFalse => cases hR
  rename_i hcc
  obtain ⟨hr64, hb8, hl, hbl⟩ := hcc
  cases hR
  obtain ⟨vd, vn, vi, -⟩ := ns ha
  obtain ⟨ud, un, ui, -⟩ := bs hb
  refine .go _ rfl rfl ?_
  by_cases hbig : 4096 < l.length
  · simp -implicitDefEqProofs (disch := omega) [vn, vd, ha, c_alive, k_alive, c_Split, k_Split, c_Encode, k_Encode, hr64, hbig]
  have hrng := r64'_iff.1 hr64
  have hruns := runs_split hrng
  have hex := expd_split l l.length (Nat.le_refl _)
  rw [List.take_length] at hex
  have hRle := splitI_le l l.length
  have hcnt := splitI_cnt l l.length
  have hvR : ofRuns (demote (splitV l)) = some (splitI l l.length) := by
    by_cases hnil : l = []
    · subst hnil; rfl
    · rw [splitV, if_neg hnil]; exact ofRecL_lst runV_len ofRun_run rfl
  have hvt : ntup (demote (splitV l)) = some (demote (splitV l)) := by unfold splitV; split <;> rfl
  have hvd : demote (demote (splitV l)) = demote (splitV l) := by unfold splitV; split <;> rfl
  obtain ⟨w, hw⟩ : ∃ w, w = demote (splitV l) := ⟨_, rfl⟩
  rw [← hw] at hvR hvt hvd
  obtain ⟨R, hRe⟩ : ∃ R, R = splitI l l.length := ⟨_, rfl⟩
  rw [← hRe] at hruns hex hRle hcnt hvR
  have hb20 : ∀ r ∈ R, (runB r).length ≤ 20 := fun r hr => by
    have h1 := hruns.rng r hr
    have h2 := hcnt r hr
    have h3 := foldI_range h1.1 h1.2
    exact runB_len (by omega) (by omega)
  have hjn := (jn_runs hruns (by rw [hex]; omega) R.length (Nat.le_refl _)).eq
  rw [List.take_length, hex] at hjn
  have hall : (R.all fun r => decide (r.2 < 9223372036854775808)) = true := by
    rw [List.all_eq_true]
    intro r hr
    have := hcnt r hr
    exact decide_eq_true (by omega)
  have hd1 := decZ_enc (c := []) hruns (by rw [hex]; omega) (by omega)
  rw [List.append_nil, if_pos rfl, hex] at hd1
  have hd2 := decZ_enc (c := [1]) hruns (by rw [hex]; omega) (by omega)
  rw [if_neg (by simp)] at hd2
  have hE8 := b8_enc R
  have hE8' := b8_snoc hE8
  have hEl := enc_len hb20 (by omega)
  obtain ⟨E, hE⟩ : ∃ E, E = encL R := ⟨_, rfl⟩
  rw [← hE] at hd1 hd2 hE8 hE8' hEl
  have hEi : ofInts .u8 (.lst .frozen (ints .u8 E) E.length) = some E := by simp [ofInts]
  have hEi2 : ofInts .u8 (.lst .frozen (ints .u8 (E ++ [1])) (E.length + 1)) = some (E ++ [1]) := by simp [ofInts]
  have h1i : ofInts .u8 (.lst .frozen [.int .u8 1] 1) = some [1] := rfl
  obtain ⟨w2, p1, p2, p3, p4⟩ := joinV_dec l
  have p5 := ofIntsR_of (objs := []) p4
  have vR := ofIntsR_of (objs := []) ha
  have hcopy : ofInts .u8 (.lst .frozen (ints .u8 b) b.length) = some b := by simp [ofInts]
  obtain ⟨J, hJ⟩ : ∃ J, J = (decZ b).2 := ⟨_, rfl⟩
  obtain ⟨e, he⟩ : ∃ e, e = (decZ b).1 := ⟨_, rfl⟩
  have hJl := decZ_len (b := b)
  have hJe := decZ_err (b := b)
  have hJo := decZ_only (b := b) (b8_iff.1 hb8)
  rw [← hJ] at hJl hJe hJo
  rw [← he] at hJe hJo
  obtain ⟨w5, q1, q2, q3, q4⟩ := joinV_dec J
  obtain ⟨-, q5, -⟩ := ns q4
  by_cases he0 : e = 0
  · obtain ⟨R2, t1, t2, t3, t4⟩ := hJo he0
    have hJ64 := r64_expd t1
    have hsp := splitI_expd t1
    rw [t2] at hJ64 hsp
    have hJn : ¬ 4096 < J.length := by omega
    simp -implicitDefEqProofs (disch := omega) [blit1, vn, vd, un, ud, ha, hb, c_alive, k_alive, c_Split, k_Split, c_Encode, k_Encode, hr64, hbig, ← hw, hvt, hvd, ← hRe, ← hE, c_Join, k_Join, hvR, hall, hjn, p1, p2, p3, p4, p5, vR, c_Decode, k_Decode, hEi, hE8, hd1, c_Cat, k_Cat, h1i, hEi2, hE8', hd2, joinV_nil, c_Same8, k_Same8, c_Copy, k_Copy, hcopy, hb8, ← hJ, ← he, q1, q2, q3, q4, q5, he0, hJ64, hJn, hsp, t4, c_Same, k_Same]
  · have hJ0 := hJe he0
    have he1 : (e != 0) = true := by simpa using he0
    rw [hJ0] at q5
    simp -implicitDefEqProofs (disch := omega) [blit1, vn, vd, un, ud, ha, hb, c_alive, k_alive, c_Split, k_Split, c_Encode, k_Encode, hr64, hbig, ← hw, hvt, hvd, ← hRe, ← hE, c_Join, k_Join, hvR, hall, hjn, p1, p2, p3, p4, p5, vR, c_Decode, k_Decode, hEi, hE8, hd1, c_Cat, k_Cat, h1i, hEi2, hE8', hd2, joinV_nil, c_Same8, k_Same8, c_Copy, k_Copy, hcopy, hb8, ← hJ, ← he, q1, q2, q3, q4, q5, he1])
theorem walk_RunsBack {D M n : Nat} {vs : List V} {args : Array Value} {W : World} (hS : ShpAll Try.prog D M n [22, 34] vs) (hA : AR (top W) W vs args.toList) : Calls Try.prog 6 args W fun e W' => e = .returned (.bool true) ∧ Go.RowKit.Below W.heap.size W W' := by
  match vs, hS with
  | [v0, v1], ⟨s0, s1, _⟩ =>
    obtain ⟨l0, d0, b0, n0, -⟩ := in_nums s0
    obtain ⟨l1, d1, b1, n1, -⟩ := in_bytes s1
    have b0' : r64' l0 = true := b0
    have h1 : l0.length < 140737488355000 := by omega
    have h2 : l1.length < 140737488355000 := by omega
    refine whole fit T_RunsBack_ok (fn := Try.f6) (by kernel_rfl) (by kernel_rfl) ?_ hA
    show k_RunsBack [v0, v1] [] = _
    simp (disch := omega) [k_RunsBack, d0, d1, b0', b1, h1, h2]

end Go.Proofs.Ytodpdfnnnkcnnaa.B
