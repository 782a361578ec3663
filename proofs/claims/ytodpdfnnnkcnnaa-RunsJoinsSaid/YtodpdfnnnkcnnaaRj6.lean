import Derived.Test.YtodpdfnnnkcnnaaRj5
set_option linter.unusedSimpArgs false
set_option linter.unusedVariables false
set_option linter.unusedSectionVars false
set_option maxRecDepth 20000
namespace Go.Proofs.Ytodpdfnnnkcnnaa.B
open Go Go.Ab
theorem jn_err {rs : List (Int × Int)} : ∀ i, (jn rs i).1 ≠ 0 → (jn rs i).2 = []
  | 0, h => absurd rfl h
  | i + 1, h => by
    rw [jn] at h ⊢
    split
    · rename_i q; rw [if_pos q] at h; exact jn_err i h
    · rename_i q; rw [if_neg q] at h
      split
      · rfl
      · rename_i q; rw [if_neg q] at h
        split
        · rfl
        · rename_i q; rw [if_neg q] at h
          split
          · rfl
          · rename_i q; rw [if_neg q] at h; exact absurd rfl h
theorem jn_len {rs : List (Int × Int)} : ∀ i, (jn rs i).2.length ≤ 4096
  | 0 => by simp [jn]
  | i + 1 => by
    have := jn_len (rs := rs) i
    rw [jn]
    repeat' split
    all_goals first | assumption | (simp; done) | (simp; omega)
theorem rjV_dec (rs : List (Int × Int)) (i : Nat) : ∃ w, demote (rjV (jn rs i)) = w ∧ ntup w = some w ∧ demote w = w ∧ ofInts .i64 w = some (jn rs i).2 := by
  by_cases h : (jn rs i).1 = 0
  · have : rjV (jn rs i) = .lst (.fresh 1 true) (ints .i64 (jn rs i).2) (jn rs i).2.length := if_pos h
    rw [this]
    exact ⟨_, rfl, rfl, rfl, by simp [ofInts]⟩
  · have : rjV (jn rs i) = .nils := if_neg h
    rw [this, jn_err i h]
    exact ⟨_, rfl, rfl, rfl, rfl⟩
theorem joinV_dec (l : List Int) : ∃ w, demote (joinV l) = w ∧ ntup w = some w ∧ demote w = w ∧ ofInts .i64 w = some l := by
  by_cases h : l = []
  · subst h; exact ⟨.nils, rfl, rfl, rfl, rfl⟩
  · rw [joinV, if_neg h]
    exact ⟨_, rfl, rfl, rfl, by simp [ofInts]⟩
theorem joinV_ne {l : List Int} (h : l ≠ []) : joinV l = .lst (.fresh 1 true) (ints .i64 l) l.length := if_neg h
noncomputable def k_RunsJoins : Ab.Spec := con1 ofRuns fun l objs => match objs with | [] => bnd l.length 140737488355000 (if (l.all fun r => decide (r.2 < 9223372036854775808)) = true ∧ l.length * 16 < 140737488355328 then some (.bool true, none) else none) | _ => none
noncomputable def T_RunsJoins : CallF := withF T_Apart8 4 k_RunsJoins
theorem T_RunsJoins_ok : CallOk Try.prog T_RunsJoins := con_of (A := annOf [14,24] [] [(28, [.ref])] false [19]) fit T_Apart8_ok (fn := Try.f4) (by kernel_rfl) (by kernel_rfl) (by
  intro args objs r h0
  have c_alive : ∀ a o, T_Apart8 8 a o = k_alive a o := fun _ _ => rfl
  have c_Join : ∀ a o, T_Apart8 17 a o = k_Join a o := fun _ _ => rfl
  have c_RefJoin : ∀ a o, T_Apart8 18 a o = k_RefJoin a o := fun _ _ => rfl
  have c_Apart8 : ∀ a o, T_Apart8 19 a o = k_Apart8 a o := fun _ _ => rfl
  have c_SameRuns : ∀ a o, T_Apart8 12 a o = k_SameRuns a o := fun _ _ => rfl
  obtain ⟨v, l, rfl, ha, hR⟩ := con1_inv h0
  split at hR
  case h_2 => cases hR
  obtain ⟨hl, hR⟩ := bnd_inv hR
  split at hR
  case isFalse => cases hR
  rename_i hrng
  obtain ⟨hrng, hsz⟩ := hrng
  cases hR
  obtain ⟨vd, vn, vi, -⟩ := rs ha
  refine .go _ rfl rfl ?_
  simp (disch := omega) [vn, c_alive, k_alive, rlit0]
  refine .up l.length (fun i s => s.env 0 = v ∧ s.env 15 = v ∧ s.env 16 = .int .i64 l.length ∧ s.env 17 = .int .i64 i ∧ s.env 3 = .lst (.tok 0 2) (flatV runV (l.take i)) i ∧ s.toks = [i * 2] ∧ s.low = 0) (by simp; rfl) ?_
  rintro i s hi ⟨g0, g15, g16, g17, g3, ht, hlo⟩
  obtain ⟨O, hO⟩ : ∃ O, O = s.objs := ⟨_, rfl⟩
  have ho := hO.symm
  rcases Nat.lt_or_ge i l.length with h | h
  · have e1 := vi .i64 i (by omega) (by omega)
    rw [Int.toNat_natCast] at e1
    have fa := flatV_at runV_len h
    have ff := flatV_fit runV_len h
    have et := take_nth h
    obtain ⟨r, hre⟩ : ∃ r, r = nth l i := ⟨_, rfl⟩
    rw [← hre] at fa et
    have fr : runV r = [.int .i64 r.1, .int .i64 r.2] := rfl
    rw [fr] at fa
    have hw : IntKind.i64.wrap ((i : Int) + 1) = (i : Int) + 1 := wrap_small (by omega) (by omega)
    have fl := flatV_snoc (f := runV) (l := l.take i) (a := r)
    rw [← et, fr] at fl
    have hlen : (flatV runV (l.take i)).length = i * 2 := by rw [flatV_len runV_len]; simp; omega
    simp -implicitDefEqProofs (disch := omega) [g0, g15, g16, g17, g3, ht, hlo, ho, e1, fa, ff, setCells, getObj_last, set_last, rlit1, fl, hlen, hw]
    exact ⟨h, by omega⟩
  · obtain rfl : i = l.length := by omega
    rw [List.take_length] at g3
    have hdec : ofRuns (.lst .frozen (flatV runV l) l.length) = some l := ofRecL_lst runV_len ofRun_run rfl
    obtain ⟨J, hJ⟩ : ∃ J, J = (jn l l.length).2 := ⟨_, rfl⟩
    obtain ⟨e, he⟩ : ∃ e, e = (jn l l.length).1 := ⟨_, rfl⟩
    have hJl := jn_len (rs := l) l.length
    obtain ⟨w1, p1, p2, p3, p4⟩ := rjV_dec l l.length
    rw [← hJ] at p4 hJl
    obtain ⟨w2, q1, q2, q3, q4⟩ := joinV_dec J
    by_cases hJ0 : J = []
    · subst hJ0
      have hno : ofInts .i64 .nils = some [] := rfl
      simp -implicitDefEqProofs (disch := omega) [g0, g15, g16, g17, g3, ht, hlo, ho, vn, vd, ha, c_Join, k_Join, c_RefJoin, k_RefJoin, c_Apart8, k_Apart8, c_SameRuns, k_SameRuns, hdec, hrng, ← hJ, ← he, p1, p2, p3, p4, joinV_nil, hno]
    · have hj := joinV_ne hJ0
      have hq : ofInts .i64 (.lst .frozen (ints .i64 J) J.length) = some J := by simp [ofInts]
      have hpos : 0 < J.length := List.length_pos_iff.2 hJ0
      simp -implicitDefEqProofs (disch := omega) [g0, g15, g16, g17, g3, ht, hlo, ho, vn, vd, ha, c_Join, k_Join, c_RefJoin, k_RefJoin, c_Apart8, k_Apart8, c_SameRuns, k_SameRuns, hdec, hrng, ← hJ, ← he, p1, p2, p3, p4, hj, getObj_last, hpos, hq, set_last])

/-! what a law is handed -/
def b8 (l : List Int) : Bool := l.all fun c => decide (0 ≤ c) && decide (c < 256)
theorem b8_iff {l : List Int} : b8 l = true ↔ ∀ c ∈ l, 0 ≤ c ∧ c < 256 := by simp [b8]
theorem wf_u8 {l : List Int} (h : ∀ c ∈ l, (Lit.int .u8 c).wf = true) : b8 l = true := b8_iff.2 fun c hc => by
  have := h c hc
  simp [Lit.wf, IntKind.min, IntKind.max] at this
  omega

theorem in_int {D M n : Nat} {v : V} {t : TypeId} {k : IntKind} (hu : Try.prog.underlying t = some (.int k)) (hg : Ab.isAgg Try.prog t = false) (h : ShpV Try.prog D M n t v) : ∃ i, v = .int k i ∧ (Lit.int k i).wf = true := by
  unfold ShpV at h
  rw [if_neg (by rw [hg]; simp)] at h
  exact shp_int hu h
theorem wf_u32 {c : Int} (h : (Lit.int .u32 c).wf = true) : 0 ≤ c ∧ c < 4294967296 := by
  simp [Lit.wf, IntKind.min, IntKind.max] at h; omega
theorem wf_u64 {c : Int} (h : (Lit.int .u64 c).wf = true) : 0 ≤ c ∧ c < 18446744073709551616 := by
  simp [Lit.wf, IntKind.min, IntKind.max] at h; omega
theorem wf_i64 {c : Int} (h : (Lit.int .i64 c).wf = true) : -9223372036854775808 ≤ c ∧ c < 9223372036854775808 := by
  simp [Lit.wf, IntKind.min, IntKind.max] at h; omega
theorem flat : laidFlat Try.prog = true := by kernel_rfl

def r64 (l : List Int) : Bool := l.all fun c => decide (-9223372036854775808 ≤ c) && decide (c < 9223372036854775808)
theorem r64_iff {l : List Int} : r64 l = true ↔ ∀ c ∈ l, -9223372036854775808 ≤ c ∧ c < 9223372036854775808 := by simp [r64]
theorem in_nums {D M n : Nat} {v : V} (h : ShpV Try.prog D M n 22 v) : ∃ l, ofInts .i64 v = some l ∧ r64 l = true ∧ l.length * 8 ≤ 140737488351232 ∧ (M = 0 ∨ l.length ≤ M) := by
  have hg : Ab.isAgg Try.prog 22 = false := by kernel_rfl
  have h2 : Shp Try.prog D M n 22 v := by unfold ShpV at h; rwa [if_neg (by rw [hg]; simp)] at h
  obtain ⟨l, l1, l2, l3, l4⟩ := shp_ints u22 u2 h2
  have hb : Try.prog.bytesOf 2 = 8 := by kernel_rfl
  rw [hb] at l3
  exact ⟨l, l1, r64_iff.2 fun c hc => wf_i64 (l2 c hc), by omega, l4⟩

theorem shp_i64 {D M k : Nat} {t : TypeId} {v : V} (hu : Try.prog.underlying t = some (.int .i64)) (h : Shp Try.prog D M k t v) : ∃ i, v = .int .i64 i ∧ -9223372036854775808 ≤ i ∧ i < 9223372036854775808 := by
  cases k with
  | zero => exact h.elim
  | succ k =>
    rw [Shp, hu] at h
    obtain ⟨i, rfl, hi⟩ := h
    exact ⟨i, rfl, wf_i64 hi⟩
theorem in_runs {D M n : Nat} {v : V} (h : ShpV Try.prog (D + 64) M n 25 v) : ∃ l, ofRuns v = some l ∧ (∀ r ∈ l, (-9223372036854775808 ≤ r.1 ∧ r.1 < 9223372036854775808) ∧ (-9223372036854775808 ≤ r.2 ∧ r.2 < 9223372036854775808)) ∧ l.length * 16 ≤ 140737488351232 ∧ (M = 0 ∨ l.length ≤ M) := by
  have hg : Ab.isAgg Try.prog 25 = false := by kernel_rfl
  have h2 : Shp Try.prog (D + 64) M n 25 v := by unfold ShpV at h; rwa [if_neg (by rw [hg]; simp)] at h
  have hls : leaves Try.prog (D + 64) 33 = [2, 3] := by kernel_rfl
  obtain ⟨l, l1, l2, l3, l4⟩ := shp_recs (d := ofRun) (R := fun r => (-9223372036854775808 ≤ r.1 ∧ r.1 < 9223372036854775808) ∧ (-9223372036854775808 ≤ r.2 ∧ r.2 < 9223372036854775808)) (m := 2) u25 hls rfl (fun k us hl hs => by
    match us, hl with
    | [a, b], _ =>
      obtain ⟨x, rfl, hx⟩ := shp_i64 u2 (hs 0 a _ rfl rfl)
      obtain ⟨y, rfl, hy⟩ := shp_i64 u3 (hs 1 b _ rfl rfl)
      exact ⟨(x, y), rfl, hx, hy⟩) h2
  have hb : Try.prog.bytesOf 33 = 16 := by kernel_rfl
  rw [hb] at l3
  exact ⟨l, l1, l2, l3, l4⟩

theorem walk_RunsJoins {D M n : Nat} {vs : List V} {args : Array Value} {W : World} (hS : ShpAll Try.prog (D + 64) M n [25] vs) (hA : AR (top W) W vs args.toList) : Calls Try.prog 4 args W fun e W' => e = .returned (.bool true) ∧ Go.RowKit.Below W.heap.size W W' := by
  match vs, hS with
  | [v0], ⟨s0, _⟩ =>
    obtain ⟨l0, d0, b0, n0, -⟩ := in_runs s0
    have hr : (l0.all fun r => decide (r.2 < 9223372036854775808)) = true := by
      rw [List.all_eq_true]
      intro r hr
      exact decide_eq_true (b0 r hr).2.2
    have hz : l0.length * 16 < 140737488355328 := by omega
    refine whole fit T_RunsJoins_ok (fn := Try.f4) (by kernel_rfl) (by kernel_rfl) ?_ hA
    show k_RunsJoins [v0] [] = _
    simp (disch := omega) [k_RunsJoins, d0, hr, hz]

end Go.Proofs.Ytodpdfnnnkcnnaa.B
