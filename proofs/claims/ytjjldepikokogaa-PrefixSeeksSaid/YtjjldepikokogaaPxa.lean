import Derived.Test.YtjjldepikokogaaPx9
set_option linter.unusedSimpArgs false
set_option linter.unusedVariables false
set_option linter.unusedSectionVars false
set_option maxRecDepth 20000
set_option maxHeartbeats 1000000
namespace Go.Proofs.Ytjjldepikokogaa.B
open Go Go.Ab
/-! lists of texts -/
def txV (ss : List (List Int)) : List V := ss.map fun s => .lst .frozen (ints .u8 s) s.length
theorem txV_len (ss : List (List Int)) : (txV ss).length = ss.length := by simp [txV]
theorem txV_of {ss : List (List Int)} {n : Nat} (h : n = ss.length) : ofList (ofInts .u8) (.lst .frozen (txV ss) n) = some ss := by
  subst h
  refine ofList_lst ?_ (by simp [txV])
  have := ofCells_map (d := ofInts .u8) (f := fun s : List Int => V.lst .frozen (ints .u8 s) s.length) (g := id) (fun b => ofInts_lst rfl) ss
  rw [List.map_id] at this
  exact this
theorem txV_refs (ss : List (List Int)) (b : Nat) : norefs b (txV ss) = true := norefs_iff.2 fun v hv => by
  obtain ⟨s, -, rfl⟩ := List.mem_map.1 hv
  simp
theorem txV_snoc (ss : List (List Int)) (s : List Int) : txV ss ++ [.lst .frozen (ints .u8 s) s.length] = txV (ss ++ [s]) := by simp [txV]
theorem llit1 {v : V} (h : isDef v = true) (hc : cellsOf v = [v]) : listV Try.prog 22 1 [(0, v)] = some ([v], 1) := by simp [listV, fillV, zeros, setCells, h, hc]
theorem llit0 : listV Try.prog 22 0 [] = some ([], 1) := by simp [listV, fillV, zeros]
noncomputable def k_Copy10 : Ab.Spec := con1 (ofList (ofInts .u8)) fun ss _ => bnd (ss.length * 24) 140737488355328 (if shortT ss = true then some (.lst (.fresh 1 false) (txV ss) ss.length, none) else none)
noncomputable def T_Copy10 : CallF := withF T_rpEncode 8 k_Copy10
theorem T_Copy10_ok : CallOk Try.prog T_Copy10 := con_of (A := annOf [5] [] [] false []) fit T_rpEncode_ok (fn := Try.f8) (by kernel_rfl) (by kernel_rfl) (by
  intro args objs r h0
  have c_Copy : ∀ a o, T_rpEncode 21 a o = k_Copy a o := fun _ _ => rfl
  obtain ⟨v, ss, rfl, ha, hR⟩ := con1_inv h0
  obtain ⟨hl, hR⟩ := bnd_inv hR
  split at hR
  case isFalse => cases hR
  rename_i hall
  cases hR
  have hall := shortT_iff.1 hall
  obtain ⟨vd, vn, cs, vi, vc⟩ := tx ha
  refine .go _ rfl rfl ?_
  simp [llit0]
  refine .up ss.length (fun i s => s.env 0 = v ∧ s.env 3 = .lst (.tok 0 1) (txV (ss.take i)) i ∧ s.env 4 = .int .i64 i ∧ s.toks = [i] ∧ s.objs = objs ∧ s.low = objs.length) (by simp [txV]) ?_
  rintro i s hi ⟨h0, h3, h4, ht, ho, hlo⟩
  rcases Nat.lt_or_ge i ss.length with h | h
  · obtain ⟨c, c1, c1', c2⟩ := vc i h
    obtain ⟨cd, -⟩ := bs c2
    have e1 := vi .i64 i (by omega) (by omega)
    rw [Int.toNat_natCast] at e1
    have hL := hall _ (nth_mem h)
    have e := take_nth h
    obtain ⟨L, hLd⟩ : ∃ L, L = nth ss i := ⟨_, rfl⟩
    rw [← hLd] at c2 hL e
    have l1 := llit1 (v := .lst .frozen (ints .u8 L) L.length) rfl rfl
    have es := txV_snoc (ss.take i) L
    rw [← e] at es
    have hm : (txV (ss.take i)).length = i := by rw [txV_len, List.length_take]; omega
    simp -implicitDefEqProofs (disch := omega) [h0, h3, h4, ht, ho, hlo, vn, e1, c1, c1', cd, c2, hL, h, c_Copy, k_Copy, l1, es, hm, Nat.mod_one, wrap_small]
  · obtain rfl : i = ss.length := by omega
    have hr := txV_refs ss objs.length
    rw [List.take_length] at h3
    simp -implicitDefEqProofs (disch := omega) [h0, h3, h4, ht, ho, hlo, vn, hr, txV_len])
noncomputable def k_Same10 : Ab.Spec := con2 (ofList (ofInts .u8)) (ofList (ofInts .u8)) fun a b _ => bnd a.length 140737488355328 (if shortT a = true then some (.bool (decide (a = b)), none) else none)
noncomputable def T_Same10 : CallF := withF T_Copy10 12 k_Same10
theorem T_Same10_ok : CallOk Try.prog T_Same10 := con_of (A := annOf [] [] [] false []) fit T_Copy10_ok (fn := Try.f12) (by kernel_rfl) (by kernel_rfl) (by
  intro args objs r h0
  have c_SameR : ∀ a o, T_Copy10 22 a o = k_SameR a o := fun _ _ => rfl
  obtain ⟨v, w, a, b, rfl, ha, hb, hR⟩ := con2_inv h0
  obtain ⟨hl, hR⟩ := bnd_inv hR
  split at hR
  case isFalse => cases hR
  rename_i hall
  cases hR
  have hall := shortT_iff.1 hall
  obtain ⟨vd, vn, cs, vi, vc⟩ := tx ha
  obtain ⟨wd, wn, ds, wi, wc⟩ := tx hb
  refine .go _ rfl rfl ?_
  by_cases hn : a.length = b.length
  · simp [vn, wn, hn]
    refine .up a.length (fun i s => s.env 0 = v ∧ s.env 1 = w ∧ s.env 5 = .int .i64 i ∧ s.toks = [] ∧ s.objs = objs ∧ s.low = objs.length ∧ ∀ j, j < i → nth a j = nth b j) (by simp) ?_
    rintro i s hi ⟨h0, h1, h5, ht, ho, hlo, hj⟩
    rcases Nat.lt_or_ge i a.length with h | h
    · obtain ⟨c, c1, c1', c2⟩ := vc i h
      obtain ⟨d, d1, d1', d2⟩ := wc i (by omega)
      obtain ⟨cd, -⟩ := bs c2
      obtain ⟨dd, -⟩ := bs d2
      have e1 := vi .i64 i (by omega) (by omega)
      have e2 := wi .i64 i (by omega) (by omega)
      rw [Int.toNat_natCast] at e1 e2
      have hL := hall _ (nth_mem h)
      have q1 : ofIntsR .u8 objs c = some (nth a i) := ofIntsR_of c2
      have q2 : ofIntsR .u8 objs d = some (nth b i) := ofIntsR_of d2
      by_cases he : nth a i = nth b i
      · have hs : ∀ j, j < i + 1 → nth a j = nth b j := fun j hj2 => by
          rcases Nat.lt_or_ge j i with h2 | h2
          · exact hj j h2
          · obtain rfl : j = i := by omega
            exact he
        rw [he] at q1 hL
        simp -implicitDefEqProofs (disch := omega) [h0, h1, h5, ht, ho, hlo, vn, wn, e1, e2, c1, c1', d1, d1', cd, dd, h, c_SameR, k_SameR, q1, q2, hL, wrap_small]
        exact hs
      · have hne : a ≠ b := fun q => he (by rw [q])
        simp -implicitDefEqProofs (disch := omega) [h0, h1, h5, ht, ho, hlo, vn, wn, e1, e2, c1, c1', d1, d1', cd, dd, h, c_SameR, k_SameR, q1, q2, hL, he, hne]
    · have hab : a = b := ext_nth hn fun j h2 => hj j (by omega)
      have hnl : ¬ i < b.length := by omega
      simp [h0, h1, h5, ht, ho, hlo, vn, wn, hab, hnl]
  · have hf : ((a.length : Int) != (b.length : Int)) = true := by simp only [bne_iff_ne, ne_eq]; omega
    have hne : a ≠ b := fun q => hn (by rw [q])
    simp [vn, wn, hf, hne])

end Go.Proofs.Ytjjldepikokogaa.B
