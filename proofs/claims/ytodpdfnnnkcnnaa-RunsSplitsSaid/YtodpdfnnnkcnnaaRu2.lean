import Derived.Test.YtodpdfnnnkcnnaaRu1
set_option linter.unusedSimpArgs false
set_option linter.unusedVariables false
set_option linter.unusedSectionVars false
set_option maxRecDepth 20000
set_option maxHeartbeats 1000000
namespace Go.Proofs.Ytodpdfnnnkcnnaa.B
open Go Go.Ab
/-! slices of int64 that come in -/
theorem ns {v : V} {l : List Int} (h : ofInts .i64 v = some l) : demote v = v ∧ lenV Try.prog 22 v = some (.int .i64 l.length) ∧ (∀ k i, 0 ≤ i → i < (l.length : Int) → indexV Try.prog 22 v (.int k i) = some (.fptr (ints .i64 l) i.toNat)) ∧
    (∀ objs e, srcOf (.slice e) objs 1 v = some (ints .i64 l)) ∧ isDef v = true ∧ cellsOf v = [v] ∧ oneCell v = true ∧ ∀ b, Ab.noref b v = true := by
  have w := ofInts_inv h
  refine ⟨w.dem, w.size u22, fun k i h0 h1 => ?_, fun objs e => w.src (by simp) (by simp) objs e, w.isDef, w.cells, w.one, fun b => w.noref (by simp)⟩
  have := w.idx u22 z2 k i h0 h1
  rwa [Nat.mul_one] at this
theorem nlit1 (c : Int) : listV Try.prog 22 1 [(0, .int .i64 c)] = some ([.int .i64 c], 1) := by simp [listV, fillV, zeros, setCells]
theorem nlit0 : listV Try.prog 22 0 [] = some ([], 1) := by simp [listV, fillV, zeros]
/-! runs -/
def runV (r : Int × Int) : List V := [.int .i64 r.1, .int .i64 r.2]
def ofRun : List V → Option (Int × Int) | [.int .i64 a, .int .i64 b] => some (a, b) | _ => none
theorem runV_len (r : Int × Int) : (runV r).length = 2 := rfl
theorem ofRun_run (r : Int × Int) : ofRun (runV r) = some r := rfl
theorem ofRun_inv (x : List V) (r : Int × Int) (h : ofRun x = some r) : x = runV r := by
  unfold ofRun at h
  split at h
  · cases h; rfl
  · cases h
def ofRuns : V → Option (List (Int × Int)) := ofRecL ofRun 2
theorem rs {v : V} {l : List (Int × Int)} (h : ofRuns v = some l) : demote v = v ∧ lenV Try.prog 25 v = some (.int .i64 l.length) ∧ (∀ k i, 0 ≤ i → i < (l.length : Int) → indexV Try.prog 25 v (.int k i) = some (.fptr (flatV runV l) (i.toNat * 2))) ∧ Sl v (flatV runV l) l.length := by
  have w := ofRecL_inv runV_len ofRun_inv h
  exact ⟨w.dem, w.size u25, fun k i h0 h1 => w.idx u25 z33 k i h0 h1, w⟩
theorem rlit1 (a b : Int) : listV Try.prog 25 1 [(0, .agg [.int .i64 a, .int .i64 b])] = some ([.int .i64 a, .int .i64 b], 2) := by simp [listV, fillV, zeros, setCells]
theorem rlit0 : listV Try.prog 25 0 [] = some ([], 2) := by simp [listV, fillV, zeros]
theorem runs_refs (l : List (Int × Int)) (b : Nat) : norefs b (flatV runV l) = true := norefs_iff.2 fun v hv => by
  obtain ⟨r, _, hr⟩ := List.mem_flatMap.1 hv
  simp only [runV, List.mem_cons, List.not_mem_nil, or_false] at hr
  rcases hr with rfl | rfl <;> rfl
theorem runs_one (l : List (Int × Int)) : (flatV runV l).all oneCell = true := by
  rw [List.all_eq_true]
  intro v hv
  obtain ⟨r, _, hr⟩ := List.mem_flatMap.1 hv
  simp only [runV, List.mem_cons, List.not_mem_nil, or_false] at hr
  rcases hr with rfl | rfl <;> rfl
theorem of_get {α : Type} {l : List α} {i : Nat} {a : α} (h : l[i]? = some a) : ∀ hh : i < l.length, l[i]'hh = a := fun hh => by rw [List.getElem?_eq_getElem hh] at h; exact Option.some.inj h
theorem run_val {l : List (Int × Int)} {i : Nat} (h : i < l.length) : (flatV runV l)[i * 2]? = some (.int .i64 (nth l i).1) := flatV_get runV_len (j := 0) h (by omega)
theorem run_cnt {l : List (Int × Int)} {i : Nat} (h : i < l.length) : (flatV runV l)[i * 2 + 1]? = some (.int .i64 (nth l i).2) := flatV_get runV_len (j := 1) h (by omega)

/-- Does a run begin there? -/
def brk (l : List Int) (i : Nat) : Bool := decide (i = 0 ∨ nth l i ≠ nth l (i - 1))
def bump (rs : List (Int × Int)) : List (Int × Int) := rs.set (rs.length - 1) ((nth rs (rs.length - 1)).1, (nth rs (rs.length - 1)).2 + 1)
def splitI (l : List Int) : Nat → List (Int × Int)
  | 0 => []
  | i + 1 => if brk l i = true then splitI l i ++ [(nth l i, 1)] else bump (splitI l i)
theorem bump_len (rs : List (Int × Int)) : (bump rs).length = rs.length := by simp [bump]
theorem splitI_pos (l : List Int) (i : Nat) : 0 < i → 0 < (splitI l i).length := by
  induction i with
  | zero => omega
  | succ i ih =>
    intro _
    unfold splitI
    split
    · simp
    · rename_i h
      rw [bump_len]
      apply ih
      rcases Nat.eq_zero_or_pos i with q | q
      · exfalso; apply h; simp [brk, q]
      · exact q
theorem splitI_le (l : List Int) (i : Nat) : (splitI l i).length ≤ i := by
  induction i with
  | zero => simp [splitI]
  | succ i ih =>
    unfold splitI
    split
    · simp; exact ih
    · rw [bump_len]; omega
theorem splitI_cnt (l : List Int) (i : Nat) : ∀ r ∈ splitI l i, 1 ≤ r.2 ∧ r.2 ≤ i := by
  induction i with
  | zero => intro r h; simp [splitI] at h
  | succ i ih =>
    intro r h
    unfold splitI at h
    split at h
    · rcases List.mem_append.1 h with q | q
      · have := ih r q; omega
      · simp at q; rw [q]; simp; omega
    · unfold bump at h
      rcases List.mem_or_eq_of_mem_set h with q | q
      · have := ih r q; omega
      · rw [q]
        rcases Nat.eq_zero_or_pos (splitI l i).length with z | z
        · have : splitI l i = [] := List.eq_nil_of_length_eq_zero z
          rw [this] at h; simp at h
        · have := ih _ (nth_mem (l := splitI l i) (i := (splitI l i).length - 1) (by omega))
          simp only; omega
def splitV (l : List Int) : V := if l = [] then .nils else .lst (.fresh 2 true) (flatV runV (splitI l l.length)) (splitI l l.length).length
noncomputable def k_Split : Ab.Spec := con1 (ofInts .i64) fun l _ => bnd l.length 140737488355000 (some (if 4096 < l.length then .tup [.nils, .int .i64 4] else .tup [splitV l, .int .i64 0], none))
noncomputable def T_Split : CallF := withF T_Intact 10 k_Split
theorem T_Split_ok : CallOk Try.prog T_Split := con_of (A := annOf [] [32] [] false []) fit T_Intact_ok (fn := Try.f10) (by kernel_rfl) (by kernel_rfl) (by
  intro args objs r h0
  obtain ⟨v, l, rfl, ha, hR⟩ := con1_inv h0
  obtain ⟨hl, hR⟩ := bnd_inv hR
  cases hR
  obtain ⟨vd, vn, vi, -⟩ := ns ha
  refine .go _ rfl rfl ?_
  by_cases hbig : 4096 < l.length
  · have hb : (4096 : Int) < l.length := by omega
    simp (disch := omega) [vn, hbig]
  have hb : ¬ (4096 : Int) < l.length := by omega
  simp (disch := omega) [vn, hbig]
  refine .up l.length (fun i s => s.env 0 = v ∧ s.env 10 = v ∧ s.env 11 = .int .i64 l.length ∧ s.env 12 = .int .i64 i ∧ s.toks = [] ∧ s.low = objs.length ∧ (i = 0 ∧ s.env 4 = .nils ∧ s.objs = objs ∨ 0 < i ∧ s.env 4 = .ref objs.length ((splitI l i).length - 1) 0 (splitI l i).length 2 ∧ s.objs = objs ++ [.cells (flatV runV (splitI l i)) ((splitI l i).length - 1)])) (by simp) ?_
  rintro i s hi ⟨h0, h10, h11, h12, ht, hlo, h4⟩
  rcases Nat.lt_or_ge i l.length with h | h
  · have g1 := vi .i64 i (by omega) (by omega)
    rw [Int.toNat_natCast] at g1
    rcases h4 with ⟨rfl, h4, ho⟩ | ⟨hpos, h4, ho⟩
    · have e : splitI l 1 = [(nth l 0, 1)] := by simp [splitI, brk]
      have fl : flatV runV [(nth l 0, 1)] = [.int .i64 (nth l 0), .int .i64 1] := rfl
      have hw : IntKind.i64.wrap 1 = 1 := rfl
      have hw0 : IntKind.i64.wrap 0 = 0 := rfl
      have g1' : indexV Try.prog 22 v (.int .i64 0) = some (.fptr (ints .i64 l) 0) := g1
      simp -implicitDefEqProofs (disch := omega) [if_pos, h0, h10, h11, h12, ht, hlo, h4, ho, g1', ints_nth, fillV, setCells, rlit1, getObj_last, set_last, hw, hw0, e, fl]
      exact h
    · have hp := splitI_pos l i hpos
      have hle := splitI_le l i
      have hcnt := splitI_cnt l i
      obtain ⟨S, hS⟩ : ∃ S, S = splitI l i := ⟨_, rfl⟩
      rw [← hS] at h4 ho hp hle hcnt
      obtain ⟨k, hk⟩ : ∃ k, S.length = k + 1 := ⟨S.length - 1, by omega⟩
      have g2 := vi .i64 ((i : Int) - 1) (by omega) (by omega)
      have hi1 : ((i : Int) - 1).toNat = i - 1 := by omega
      rw [hi1] at g2
      have hw1 : IntKind.i64.wrap ((i : Int) - 1) = (i : Int) - 1 := wrap_small (by omega) (by omega)
      have hlen := flatV_len runV_len S
      rw [hk] at h4 ho hlen
      have hki : ((k : Int) + 1 - 1) = (k : Int) := by omega
      have hik : i - 1 < l.length := by omega
      by_cases hb : brk l i = true
      · have hne : nth l i ≠ nth l (i - 1) := by simp [brk] at hb; omega
        have e : splitI l (i + 1) = S ++ [(nth l i, 1)] := by rw [hS]; simp only [splitI]; rw [if_pos hb]
        have hw : IntKind.i64.wrap 1 = 1 := rfl
        have fl : flatV runV S ++ [.int .i64 (nth l i), .int .i64 0] = flatV runV (S ++ [(nth l i, 0)]) := flatV_snoc (a := (nth l i, (0 : Int)))
        have hlast : (S ++ [(nth l i, (0 : Int))]).length = k + 2 := by simp [hk]
        have hn : nth (S ++ [(nth l i, (0 : Int))]) (k + 1) = (nth l i, 0) := by rw [nth_app_r (by omega), hk, Nat.sub_self]; rfl
        have fg := run_cnt (l := S ++ [(nth l i, (0 : Int))]) (i := k + 1) (by omega)
        rw [hn] at fg
        have fg' := of_get fg
        have fs := flatV_set runV_len (l := S ++ [(nth l i, (0 : Int))]) (i := k + 1) (j := 1) (by omega) (a := (nth l i, 1)) (vs := [.int .i64 1]) (by simp) (by rw [hn]; rfl)
        have fset : (S ++ [(nth l i, (0 : Int))]).set (k + 1) (nth l i, 1) = S ++ [(nth l i, 1)] := by
          rw [List.set_append_right _ _ (by omega), hk, Nat.sub_self]; rfl
        rw [fset] at fs
        have hfl : (flatV runV (S ++ [(nth l i, (0 : Int))])).length = (k + 2) * 2 := by rw [flatV_len runV_len, hlast]
        have kk : ((k : Int) + 1 + 1 - 1) = ((k + 1 : Nat) : Int) := by omega
        have k2 : (k + 1) * 2 + 1 + 1 ≤ (k + 2) * 2 := by omega
        simp -implicitDefEqProofs (disch := omega) [if_pos, h0, h10, h11, h12, ht, hlo, h4, ho, g1, g2, ints_nth, fillV, setCells, rlit1, hw1, hne, hk, hlen, fl, getObj_last, wrap_small, hw, fg, fg', fs, e, hfl, kk, k2, set_last, runV]
        exact ⟨h, by simpa [setCells] using fs⟩
      · have heq : nth l i = nth l (i - 1) := by simp [brk] at hb; exact hb.2
        have hb' : (nth l i != nth l (i - 1)) = false := by simpa using heq
        obtain ⟨r, hr⟩ : ∃ r, r = nth S k := ⟨_, rfl⟩
        have hc := hcnt _ (nth_mem (l := S) (i := k) (by omega))
        rw [← hr] at hc
        have e : splitI l (i + 1) = S.set k (r.1, r.2 + 1) := by
          rw [hS]; simp only [splitI]; rw [if_neg hb, ← hS]; unfold bump; rw [hk, Nat.add_sub_cancel, ← hr]
        have fg := run_cnt (l := S) (i := k) (by omega)
        rw [← hr] at fg
        have fg' := of_get fg
        have fs := flatV_set runV_len (l := S) (i := k) (j := 1) (by omega) (a := (r.1, r.2 + 1)) (vs := [.int .i64 (r.2 + 1)]) (by simp) (by rw [← hr]; rfl)
        have hw : IntKind.i64.wrap (r.2 + 1) = r.2 + 1 := wrap_small (by omega) (by omega)
        have hw2 : IntKind.i64.wrap (k : Int) = k := wrap_small (by omega) (by omega)
        have k2 : k * 2 + 1 + 1 ≤ (k + 1) * 2 := by omega
        have el : (S.set k (r.1, r.2 + 1)).length = k + 1 := by simp [hk]
        simp -implicitDefEqProofs (disch := omega) [if_pos, h0, h10, h11, h12, ht, hlo, h4, ho, g1, g2, ints_nth, hw1, hb', hk, hlen, getObj_last, wrap_small, hw, hw2, fg, fg', fs, e, k2, set_last, runV, el]
        exact h
  · obtain rfl : i = l.length := by omega
    rcases h4 with ⟨hz, h4, ho⟩ | ⟨hpos, h4, ho⟩
    · have hnil : l = [] := List.eq_nil_of_length_eq_zero hz
      have hs : splitV l = .nils := if_pos hnil
      simp (disch := omega) [h0, h10, h11, h12, ht, hlo, h4, ho, hs]
    · have hne : l ≠ [] := by intro q; rw [q] at hpos; simp at hpos
      have hs : splitV l = .lst (.fresh 2 true) (flatV runV (splitI l l.length)) (splitI l l.length).length := if_neg hne
      have hr := runs_refs (splitI l l.length) objs.length
      have hl2 := flatV_len runV_len (splitI l l.length)
      simp (disch := omega) [h0, h10, h11, h12, ht, hlo, h4, ho, hs, getObj_last, hr, hl2])

end Go.Proofs.Ytodpdfnnnkcnnaa.B
