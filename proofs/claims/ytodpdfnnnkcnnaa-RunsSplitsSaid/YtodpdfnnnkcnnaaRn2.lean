import Derived.Test.YtodpdfnnnkcnnaaRn1
set_option linter.unusedSimpArgs false
set_option linter.unusedVariables false
set_option linter.unusedSectionVars false
set_option maxRecDepth 20000
set_option maxHeartbeats 1000000
namespace Go.Proofs.Ytodpdfnnnkcnnaa.B
open Go Go.Ab
/-! runs by definition -/
theorem splitI_succ (l : List Int) (i : Nat) : splitI l (i + 1) = if brk l i = true then splitI l i ++ [(nth l i, 1)] else bump (splitI l i) := rfl
theorem run_last {l : List Int} {i n : Nat} (h : ∀ k, k < n → nth l (i + (k + 1)) = nth l i) : nth l (i + n) = nth l i := by
  cases n with
  | zero => rfl
  | succ n => exact h n (by omega)
theorem splitI_run {l : List Int} {i : Nat} (hb : brk l i = true) : ∀ n, (∀ k, k < n → nth l (i + (k + 1)) = nth l i) → splitI l (i + (n + 1)) = splitI l i ++ [(nth l i, ((n + 1 : Nat) : Int))]
  | 0, _ => by
    show splitI l (i + 1) = _
    rw [splitI_succ, if_pos hb]; rfl
  | n + 1, h => by
    have ih := splitI_run hb n (fun k hk => h k (by omega))
    have hn1 : nth l (i + (n + 1)) = nth l i := h n (by omega)
    have hn0 := run_last (n := n) (fun k hk => h k (by omega))
    have hnb : ¬ brk l (i + (n + 1)) = true := by
      unfold brk
      rw [show i + (n + 1) - 1 = i + n by omega, hn0, hn1]
      simp
    have e := splitI_succ l (i + (n + 1))
    rw [if_neg hnb, ih] at e
    rw [show i + (n + 1 + 1) = i + (n + 1) + 1 by omega, e]
    unfold bump
    have hl : (splitI l i ++ [(nth l i, ((n + 1 : Nat) : Int))]).length - 1 = (splitI l i).length := by simp
    rw [hl, nth_app_r (Nat.le_refl _), Nat.sub_self, List.set_append_right _ _ (Nat.le_refl _), Nat.sub_self]
    show splitI l i ++ [(nth l i, _)] = _
    congr 3
theorem brk_next {l : List Int} {i n : Nat} (h : ∀ k, k < n → nth l (i + (k + 1)) = nth l i) (hne : nth l (i + (n + 1)) ≠ nth l i) : brk l (i + (n + 1)) = true := by
  unfold brk
  rw [show i + (n + 1) - 1 = i + n by omega, run_last h]
  simp [hne]
noncomputable def k_RefSplit : Ab.Spec := con1 (ofInts .i64) fun l _ => bnd l.length 140737488355000 (some (if 4096 < l.length then .tup [.nils, .int .i64 4] else .tup [.lst (.fresh 2 false) (flatV runV (splitI l l.length)) (splitI l l.length).length, .int .i64 0], none))
noncomputable def T_RefSplit : CallF := withF T_RFold 11 k_RefSplit
theorem T_RefSplit_ok : CallOk Try.prog T_RefSplit := con_of (A := annOf [10] [] [] false []) fit T_RFold_ok (fn := Try.f11) (by kernel_rfl) (by kernel_rfl) (by
  intro args objs r h0
  obtain ⟨v, l, rfl, ha, hR⟩ := con1_inv h0
  obtain ⟨hl, hR⟩ := bnd_inv hR
  cases hR
  obtain ⟨vd, vn, vi, -⟩ := ns ha
  refine .go _ rfl rfl ?_
  by_cases hbig : 4096 < l.length
  · have hb : (4096 : Int) < l.length := by omega
    simp (disch := omega) [vn, hbig]
  have hb : ¬ (4096 : Int) < l.length := by omega
  simp (disch := omega) [vn, hbig, rlit0]
  obtain ⟨I, hI⟩ : ∃ I : Nat → St → Prop, I = (fun (m : Nat) (s : St) => ∃ i, m + i = l.length ∧ s.env 0 = v ∧ s.env 5 = .int .i64 i ∧ (i = l.length ∨ brk l i = true) ∧ s.env 4 = .lst (.tok 0 2) (flatV runV (splitI l i)) (splitI l i).length ∧ s.toks = [(flatV runV (splitI l i)).length] ∧ s.objs = objs ∧ s.low = objs.length) := ⟨_, rfl⟩
  refine .dn l.length I (by rw [hI]; exact ⟨0, by omega, by simp, by simp, .inr (by simp [brk]), by simp [splitI, flatV_nil], by simp [splitI, flatV_nil], by simp, by simp⟩) ?_
  intro m s hs
  rw [hI] at hs
  obtain ⟨i, hmi, g0, g5, hbr, g4, ht, ho, hlo⟩ := hs
  have hle := splitI_le l i
  have hfl := flatV_len runV_len (splitI l i)
  rcases Nat.lt_or_ge i l.length with h | h
  · have hbr := hbr.resolve_left (by omega)
    have hi0 := ints_nth (k := .i64) (l := l) h
    have hi0' := of_get hi0
    simp -implicitDefEqProofs (disch := omega) [g0, g5, ht, ho, hlo, vn, h]
    obtain ⟨J, hJ⟩ : ∃ J : Nat → St → Prop, J = (fun (n : Nat) (s : St) => i + (n + 1) ≤ l.length ∧ (∀ k, k < n → nth l (i + (k + 1)) = nth l i) ∧ s.env 0 = v ∧ s.env 5 = .int .i64 i ∧ s.env 6 = .int .i64 ((n : Int) + 1) ∧ s.env 4 = .lst (.tok 0 2) (flatV runV (splitI l i)) (splitI l i).length ∧ s.toks = [(flatV runV (splitI l i)).length] ∧ s.objs = objs ∧ s.low = objs.length) := ⟨_, rfl⟩
    refine .up l.length J (by rw [hJ]; exact ⟨by omega, by omega, by simp [g0], by simp [g5], by simp, by simp [g4], by simp [ht], by simp [ho], by simp [hlo]⟩) ?_
    intro n s hn hs
    rw [hJ] at hs
    obtain ⟨hin, hk, g0, g5, g6, g4, ht, ho, hlo⟩ := hs
    have w1 : IntKind.i64.wrap ((i : Int) + ((n : Int) + 1)) = (i : Int) + ((n : Int) + 1) := wrap_small (by omega) (by omega)
    have w2 : IntKind.i64.wrap ((i : Int) + ((n : Int) + 1) - 1) = (i : Int) + n := by rw [wrap_small (by omega) (by omega)]; omega
    have w3 : IntKind.i64.wrap ((i : Int) + n + 1) = ((i + (n + 1) : Nat) : Int) := by rw [wrap_small (by omega) (by omega)]; omega
    have run := splitI_run hbr n hk
    have hle2 := splitI_le l (i + (n + 1))
    have hfl2 := flatV_len runV_len (splitI l (i + (n + 1)))
    have hfs : flatV runV (splitI l i) ++ [.int .i64 (nth l i), .int .i64 ((n : Int) + 1)] = flatV runV (splitI l (i + (n + 1))) := by
      rw [run]; exact flatV_snoc (f := runV) (a := (nth l i, ((n + 1 : Nat) : Int)))
    have hln : (splitI l (i + (n + 1))).length = (splitI l i).length + 1 := by rw [run]; simp
    have fin : ∀ s' : St, (i + (n + 1) = l.length ∨ brk l (i + (n + 1)) = true) → s'.env 0 = v → s'.env 5 = .int .i64 ((i + (n + 1) : Nat) : Int) → s'.env 4 = .lst (.tok 0 2) (flatV runV (splitI l (i + (n + 1)))) (splitI l (i + (n + 1))).length → s'.toks = [(flatV runV (splitI l (i + (n + 1)))).length] → s'.objs = objs → s'.low = objs.length → ∃ m', m' < m ∧ I m' s' := by
      intro s' z1 z2 z3 z4 z5 z6 z7
      refine ⟨l.length - (i + (n + 1)), by omega, ?_⟩
      rw [hI]; exact ⟨i + (n + 1), by omega, z2, z3, z1, z4, z5, z6, z7⟩
    have rl := rlit1 (nth l i) ((n : Int) + 1)
    have e0 := vi .i64 (i : Int) (by omega) (by omega)
    rw [Int.toNat_natCast] at e0
    have fb : fillV (placeOf Try.prog 33) [.int .i64 0, .int .i64 0] [(0, .int .i64 (nth l i)), (1, .int .i64 ((n : Int) + 1))] = some [.int .i64 (nth l i), .int .i64 ((n : Int) + 1)] := by simp [fillV, setCells]
    rcases Nat.lt_or_ge (i + (n + 1)) l.length with h2 | h2
    · have hj0 := ints_nth (k := .i64) (l := l) h2
      have hj0' := of_get hj0
      have e1 := vi .i64 ((i : Int) + ((n : Int) + 1)) (by omega) (by omega)
      have t1 : ((i : Int) + ((n : Int) + 1)).toNat = i + (n + 1) := by omega
      rw [t1] at e1
      have lt1 : (i : Int) + ((n : Int) + 1) < l.length := by omega
      by_cases he : nth l (i + (n + 1)) = nth l i
      · have hf : (nth l (i + (n + 1)) == nth l i) = true := by simpa using he
        have wn : IntKind.i64.wrap ((n : Int) + 1 + 1) = (n : Int) + 1 + 1 := wrap_small (by omega) (by omega)
        simp -implicitDefEqProofs (disch := omega) [g0, g5, g6, ht, ho, hlo, vn, w1, lt1, e0, e1, h, h2, hi0, hi0', hj0, hj0', hf, wn]
        rw [hJ]
        refine ⟨by omega, by omega, fun k hk2 => ?_, by simp [g0], by simp [g5], by simp, by simp [g4], by simp, by simp, by simp⟩
        rcases Nat.lt_or_ge k n with q | q
        · exact hk k q
        · obtain rfl : k = n := by omega
          exact he
      · have hf : (nth l (i + (n + 1)) == nth l i) = false := by simpa using he
        have hb2 := brk_next hk he
        simp -implicitDefEqProofs (disch := omega) [g0, g4, g5, g6, ht, ho, hlo, vn, w1, w2, w3, lt1, e0, e1, h, h2, hi0, hi0', hj0, hj0', hf, fb, rl, hfl, hfs]
        exact fin _ (.inr hb2) (by simp [g0]) (by simp) (by simp [hln]) (by simp [hfl2, hln]; omega) (by simp) (by simp)
    · have lt1 : ¬ (i : Int) + ((n : Int) + 1) < l.length := by omega
      simp -implicitDefEqProofs (disch := omega) [g0, g4, g5, g6, ht, ho, hlo, vn, w1, w2, w3, lt1, e0, h, hi0, hi0', fb, rl, hfl, hfs]
      exact fin _ (.inl (by omega)) (by simp [g0]) (by simp) (by simp [hln]) (by simp [hfl2, hln]; omega) (by simp) (by simp)
  · obtain rfl : i = l.length := by omega
    have hr := runs_refs (splitI l l.length) objs.length
    simp -implicitDefEqProofs (disch := omega) [g0, g4, g5, ht, ho, hlo, vn, hr, hfl])

end Go.Proofs.Ytodpdfnnnkcnnaa.B
