import Derived.Test.YtodpdfnnnkcnnaaRj2
set_option linter.unusedSimpArgs false
set_option linter.unusedVariables false
set_option linter.unusedSectionVars false
set_option maxRecDepth 20000
set_option maxHeartbeats 1000000
namespace Go.Proofs.Ytodpdfnnnkcnnaa.B
open Go Go.Ab
/-! what runs tell -/
def jn (rs : List (Int × Int)) : Nat → Int × List Int
  | 0 => (0, [])
  | i + 1 => if (jn rs i).1 ≠ 0 then jn rs i else if (nth rs i).2 < 1 then (1, []) else if 0 < i ∧ (nth rs i).1 = (nth rs (i - 1)).1 then (5, []) else
      if 4096 - ((jn rs i).2.length : Int) < (nth rs i).2 then (4, []) else (0, (jn rs i).2 ++ List.replicate (nth rs i).2.toNat (nth rs i).1)
theorem jn_stop {rs : List (Int × Int)} {i : Nat} (h : (jn rs i).1 ≠ 0) : ∀ k, jn rs (i + k) = jn rs i
  | 0 => rfl
  | k + 1 => by
    have := jn_stop h k
    show jn rs (i + k + 1) = _
    rw [jn, this, if_pos h]
theorem jn_end {rs : List (Int × Int)} {i n : Nat} {e : Int} (h : jn rs (i + 1) = (e, [])) (he : e ≠ 0) (hi : i < n) : jn rs n = (e, []) := by
  obtain ⟨k, rfl⟩ : ∃ k, n = i + 1 + k := ⟨n - (i + 1), by omega⟩
  rw [jn_stop (by rw [h]; exact he), h]
theorem last_rep {l : List Int} {k : Nat} {v : Int} (h : 0 < k) : nth (l ++ List.replicate k v) ((l ++ List.replicate k v).length - 1) = v := by
  have hl : (l ++ List.replicate k v).length - 1 = l.length + (k - 1) := by simp; omega
  rw [hl, nth_app_r (by omega), nth_lt (by simp; omega)]
  simp
structure JnOk (rs : List (Int × Int)) (i : Nat) (l : List Int) : Prop where
  eq : jn rs i = (0, l)
  len : l.length ≤ 4096
  emp : i = 0 → l = []
  last : 0 < i → l ≠ [] ∧ nth l (l.length - 1) = (nth rs (i - 1)).1
theorem jnOk_zero {rs : List (Int × Int)} : JnOk rs 0 [] := ⟨rfl, by simp, fun _ => rfl, fun h => by omega⟩
theorem JnOk.arg {rs : List (Int × Int)} {i : Nat} {l : List Int} (h : JnOk rs i l) (h1 : (nth rs i).2 < 1) : jn rs (i + 1) = (1, []) := by
  rw [jn, h.eq, if_neg (by simp), if_pos h1]
theorem JnOk.form {rs : List (Int × Int)} {i : Nat} {l : List Int} (h : JnOk rs i l) (h1 : ¬ (nth rs i).2 < 1) (h2 : 0 < i ∧ (nth rs i).1 = (nth rs (i - 1)).1) : jn rs (i + 1) = (5, []) := by
  rw [jn, h.eq, if_neg (by simp), if_neg h1, if_pos h2]
theorem JnOk.long {rs : List (Int × Int)} {i : Nat} {l : List Int} (h : JnOk rs i l) (h1 : ¬ (nth rs i).2 < 1) (h2 : ¬ (0 < i ∧ (nth rs i).1 = (nth rs (i - 1)).1)) (h3 : 4096 - (l.length : Int) < (nth rs i).2) : jn rs (i + 1) = (4, []) := by
  rw [jn, h.eq, if_neg (by simp), if_neg h1, if_neg h2, if_pos h3]
theorem JnOk.next {rs : List (Int × Int)} {i : Nat} {l : List Int} (h : JnOk rs i l) (h1 : ¬ (nth rs i).2 < 1) (h2 : ¬ (0 < i ∧ (nth rs i).1 = (nth rs (i - 1)).1)) (h3 : ¬ 4096 - (l.length : Int) < (nth rs i).2) : JnOk rs (i + 1) (l ++ List.replicate (nth rs i).2.toNat (nth rs i).1) := by
  refine ⟨by rw [jn, h.eq, if_neg (by simp), if_neg h1, if_neg h2, if_neg h3], by simp; omega, fun q => by omega, fun _ => ⟨fun q => ?_, last_rep (by omega)⟩⟩
  have := congrArg List.length q
  simp at this
  omega
theorem JnOk.test {rs : List (Int × Int)} {i : Nat} {l : List Int} (h : JnOk rs i l) : (l ≠ [] ∧ nth l (l.length - 1) = (nth rs i).1) ↔ (0 < i ∧ (nth rs i).1 = (nth rs (i - 1)).1) := by
  rcases Nat.eq_zero_or_pos i with z | z
  · constructor
    · intro q; exact absurd (h.emp z) q.1
    · intro q; omega
  · obtain ⟨a, b⟩ := h.last z
    rw [b]
    exact ⟨fun q => ⟨z, q.2.symm⟩, fun q => ⟨a, q.2.symm⟩⟩
def joinV (l : List Int) : V := if l = [] then .nils else .lst (.fresh 1 true) (ints .i64 l) l.length
theorem joinV_nil : joinV [] = .nils := rfl
theorem joinV_dec (l : List Int) : ∃ w, demote (joinV l) = w ∧ ntup w = some w ∧ demote w = w ∧ ofInts .i64 w = some l := by
  by_cases h : l = []
  · subst h; exact ⟨.nils, rfl, rfl, rfl, rfl⟩
  · rw [joinV, if_neg h]
    exact ⟨_, rfl, rfl, rfl, by simp [ofInts]⟩
theorem joinV_ne {l : List Int} (h : l ≠ []) : joinV l = .lst (.fresh 1 true) (ints .i64 l) l.length := if_neg h
noncomputable def k_Join : Ab.Spec := con1 ofRuns fun l _ => bnd l.length 140737488355000 (if (l.all fun r => decide (r.2 < 9223372036854775808)) = true then some (.tup [joinV (jn l l.length).2, .int .i64 (jn l l.length).1], none) else none)
noncomputable def T_Join : CallF := withF T_add 17 k_Join
theorem T_Join_ok : CallOk Try.prog T_Join := con_of (A := annOf [] [] [] false [33]) fit T_add_ok (fn := Try.f17) (by kernel_rfl) (by kernel_rfl) (by
  intro args objs r h0
  have c_add : ∀ a o, T_add 33 a o = k_add a o := fun _ _ => rfl
  obtain ⟨v, l, rfl, ha, hR⟩ := con1_inv h0
  obtain ⟨hl, hR⟩ := bnd_inv hR
  split at hR
  case isFalse => cases hR
  rename_i hrng
  cases hR
  have hr : ∀ i, i < l.length → (nth l i).2 < 9223372036854775808 := fun i hi => by
    have := List.all_eq_true.1 hrng _ (nth_mem hi)
    simpa using this
  obtain ⟨vd, vn, vi, -⟩ := rs ha
  refine .go _ rfl rfl ?_
  simp (disch := omega) [vn]
  refine .up l.length (fun i s => s.env 4 = .ptr objs.length 0 0 ∧ s.env 8 = v ∧ s.env 9 = .int .i64 l.length ∧ s.env 10 = .int .i64 i ∧ s.toks = [] ∧ s.low = objs.length ∧ ∃ L, JnOk l i L ∧ jl s.objs objs.length = some L) (by simp; exact ⟨[], jnOk_zero, jl_nil getObj_last⟩) ?_
  rintro i s hi ⟨g4, g8, g9, g10, ht, hlo, L, hL, hj⟩
  obtain ⟨O, hO⟩ : ∃ O, O = s.objs := ⟨_, rfl⟩
  rw [← hO] at hj
  have ho := hO.symm
  have hjl := jl_lt hj
  have hif : (if O.length < objs.length then O.length else objs.length) = objs.length := if_neg (by omega)
  have hif2 : ¬ O.length + 1 < objs.length := by omega
  rcases Nat.lt_or_ge i l.length with h | h
  · have e1 := vi .i64 i (by omega) (by omega)
    rw [Int.toNat_natCast] at e1
    have fa := flatV_at runV_len h
    have ff := flatV_fit runV_len h
    have hrr := hr i h
    have hA := @JnOk.arg l i L hL
    have hF := @JnOk.form l i L hL
    have hG := @JnOk.long l i L hL
    have hN := @JnOk.next l i L hL
    have hT := hL.test
    obtain ⟨r, hre⟩ : ∃ r, r = nth l i := ⟨_, rfl⟩
    rw [← hre] at fa hrr hA hF hG hN hT
    have fr : runV r = [.int .i64 r.1, .int .i64 r.2] := rfl
    rw [fr] at fa
    have hw : IntKind.i64.wrap ((i : Int) + 1) = (i : Int) + 1 := wrap_small (by omega) (by omega)
    by_cases h1 : r.2 < 1
    · have hend := jn_end (hA h1) (by decide) h
      simp -implicitDefEqProofs (disch := omega) [g4, g8, g9, g10, ht, hlo, ho, e1, fa, ff, setCells, getObj_last, set_last, hif, hif2, h1, hend, joinV_nil]
    have wu : IntKind.u64.wrap r.2 = r.2 := wrap_u64 (by omega) (by omega)
    have hj' := jl_app (m := [AO.cells [.int .i64 r.1, .int .i64 r.2] 0]) hj
    have hrun : ∃ R, addR objs.length r.1 r.2 (O ++ [AO.cells [.int .i64 r.1, .int .i64 r.2] 0]) = R := ⟨_, rfl⟩
    have hadd : addR objs.length r.1 r.2 (O ++ [AO.cells [.int .i64 r.1, .int .i64 r.2] 0]) = (if L ≠ [] ∧ nth L (L.length - 1) = r.1 then some (.int .i64 5, some ((O ++ [AO.cells [.int .i64 r.1, .int .i64 r.2] 0]), (O ++ [AO.cells [.int .i64 r.1, .int .i64 r.2] 0]).length)) else if 4096 - (L.length : Int) < r.2 then some (.int .i64 4, some ((O ++ [AO.cells [.int .i64 r.1, .int .i64 r.2] 0]), (O ++ [AO.cells [.int .i64 r.1, .int .i64 r.2] 0]).length)) else some (.int .i64 0, some (addN r.1 objs.length (O ++ [AO.cells [.int .i64 r.1, .int .i64 r.2] 0]) r.2.toNat, objs.length))) := by
      have hll := hL.len
      unfold addR
      rw [hj']
      simp only
      rw [if_pos ⟨by omega, by omega, hll⟩]
    have hOl : (O ++ [AO.cells [V.int .i64 r.1, .int .i64 r.2] 0]).length = O.length + 1 := by simp
    rw [hOl] at hadd
    by_cases h2 : 0 < i ∧ r.1 = (nth l (i - 1)).1
    · have hend := jn_end (hF h1 h2) (by decide) h
      rw [if_pos (hT.2 h2)] at hadd
      simp -implicitDefEqProofs (disch := omega) [g4, g8, g9, g10, ht, hlo, ho, e1, fa, ff, setCells, getObj_last, set_last, hif, hif2, h1, wu, convV, c_add, k_add, ofPtr, hadd, hend, joinV_nil]
    rw [if_neg (fun q => h2 (hT.1 q))] at hadd
    by_cases h3 : 4096 - (L.length : Int) < r.2
    · have hend := jn_end (hG h1 h2 h3) (by decide) h
      rw [if_pos h3] at hadd
      simp -implicitDefEqProofs (disch := omega) [g4, g8, g9, g10, ht, hlo, ho, e1, fa, ff, setCells, getObj_last, set_last, hif, hif2, h1, wu, convV, c_add, k_add, ofPtr, hadd, hend, joinV_nil]
    rw [if_neg h3] at hadd
    have hJ := addN_jl (v := r.1) hj' r.2.toNat
    have hnx := hN h1 h2 h3
    simp -implicitDefEqProofs (disch := omega) [g4, g8, g9, g10, ht, hlo, ho, e1, fa, ff, setCells, getObj_last, set_last, hif, hif2, h1, wu, convV, c_add, k_add, ofPtr, hadd, hw]
    exact ⟨h, _, hnx, hJ⟩
  · obtain rfl : i = l.length := by omega
    have hend := hL.eq
    rcases jl_inv hj with ⟨rfl, p2⟩ | ⟨p0, oid, ver, p1, p2, p3⟩
    · simp -implicitDefEqProofs (disch := omega) [g4, g8, g9, g10, ht, hlo, ho, p2, hend, joinV_nil]
    · have hoid : ¬ oid < objs.length := by omega
      have hj0 : joinV L = .lst (.fresh 1 true) (ints .i64 L) L.length := if_neg (by intro q; rw [q] at p0; simp at p0)
      simp -implicitDefEqProofs (disch := omega) [g4, g8, g9, g10, ht, hlo, ho, p2, p3, hend, hj0, hoid])

end Go.Proofs.Ytodpdfnnnkcnnaa.B
