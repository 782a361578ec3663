import Derived.Test.YtjjldepikokogaaPx6
set_option linter.unusedSimpArgs false
set_option linter.unusedVariables false
set_option linter.unusedSectionVars false
set_option maxRecDepth 20000
set_option maxHeartbeats 1000000
namespace Go.Proofs.Ytjjldepikokogaa.B
open Go Go.Ab
/-! how many first bytes two texts share; their order -/
def sharedN : List Int → List Int → Nat
  | a :: p, b :: q => if a = b then sharedN p q + 1 else 0
  | _, _ => 0
theorem sharedN_le : ∀ a b : List Int, sharedN a b ≤ a.length ∧ sharedN a b ≤ b.length
  | [], _ => ⟨by simp [sharedN], by simp [sharedN]⟩
  | _ :: _, [] => ⟨by simp [sharedN], by simp [sharedN]⟩
  | a :: p, b :: q => by
    unfold sharedN
    have := sharedN_le p q
    split <;> simp <;> omega
theorem nth_zero {a : Int} {p : List Int} : nth (a :: p) 0 = a := rfl
theorem nth_succ {a : Int} {p : List Int} {i : Nat} : nth (a :: p) (i + 1) = nth p i := rfl
theorem sharedN_stop : ∀ {a b : List Int} {i : Nat}, i ≤ a.length → i ≤ b.length → (∀ j, j < i → nth a j = nth b j) → (i = a.length ∨ i = b.length ∨ nth a i ≠ nth b i) → sharedN a b = i
  | [], b, i, h1, _, _, _ => by simp at h1; subst h1; simp [sharedN]
  | _ :: _, [], i, _, h2, _, _ => by simp at h2; subst h2; simp [sharedN]
  | a :: p, b :: q, 0, _, _, _, h => by
    unfold sharedN
    rw [if_neg]
    rcases h with h | h | h
    · simp at h
    · simp at h
    · exact h
  | a :: p, b :: q, i + 1, h1, h2, he, h => by
    have h0 : a = b := he 0 (by omega)
    unfold sharedN
    rw [if_pos h0, sharedN_stop (i := i) (by simpa using h1) (by simpa using h2) (fun j hj => he (j + 1) (by omega)) (by
      rcases h with h | h | h
      · left; simpa using h
      · right; left; simpa using h
      · right; right; exact h)]
theorem cmpZ_cons {a b : Int} {p q : List Int} : cmpZ (a :: p) (b :: q) = if a < b then -1 else if b < a then 1 else cmpZ p q := rfl
theorem cmpZ_at : ∀ {a b : List Int} {i : Nat}, i ≤ a.length → i ≤ b.length → (∀ j, j < i → nth a j = nth b j) → cmpZ a b = cmpZ (a.drop i) (b.drop i)
  | _, _, 0, _, _, _ => by simp
  | [], b, i + 1, h1, _, _ => by simp at h1
  | _ :: _, [], i + 1, _, h2, _ => by simp at h2
  | a :: p, b :: q, i + 1, h1, h2, he => by
    have h0 : a = b := he 0 (by omega)
    subst h0
    have : cmpZ (a :: p) (a :: q) = cmpZ p q := by simp [cmpZ]
    rw [this, cmpZ_at (i := i) (by simpa using h1) (by simpa using h2) (fun j hj => he (j + 1) (by omega))]
    simp
theorem cmpZ_self : ∀ a : List Int, cmpZ a a = 0
  | [] => rfl
  | a :: p => by simp [cmpZ, cmpZ_self p]
noncomputable def k_shared : Ab.Spec := con2 some some fun v w objs => match ofIntsR .u8 objs v, ofIntsR .u8 objs w with | some a, some b => bnd a.length 140737488355328 (some (.int .i64 (sharedN a b), none)) | _, _ => none
noncomputable def T_shared : CallF := withF T_RPut 26 k_shared
theorem T_shared_ok : CallOk Try.prog T_shared := con_of (A := annOf [] [] [] false []) fit T_RPut_ok (fn := Try.f26) (by kernel_rfl) (by kernel_rfl) (by
  intro args objs r h0
  obtain ⟨v, w, _, _, rfl, hv, hw, hR⟩ := con2_inv h0
  cases hv; cases hw
  split at hR
  case h_2 => cases hR
  rename_i a b ha hb
  obtain ⟨hl, hR⟩ := bnd_inv hR
  cases hR
  obtain ⟨pa, vd, vn, vi, vl⟩ := bsR ha
  obtain ⟨pb, wd, wn, wi, wl⟩ := bsR hb
  obtain ⟨m, hm⟩ : ∃ m, m = min a.length b.length := ⟨_, rfl⟩
  have hmi : (if b.length < a.length then (b.length : Int) else (a.length : Int)) = (m : Int) := by split <;> omega
  refine .go _ rfl rfl ?_
  simp
  refine .up m (fun i s => s.env 0 = v ∧ s.env 1 = w ∧ s.env 5 = .int .i64 i ∧ s.toks = [] ∧ s.objs = objs ∧ s.low = objs.length ∧ ∀ j, j < i → nth a j = nth b j) (by simp) ?_
  rintro i s hi ⟨h0, h1, h5, ht, ho, hlo, hj⟩
  rcases Nat.lt_or_ge i m with h | h
  · by_cases he : nth a i = nth b i
    · have hf : (nth a i == nth b i) = true := by simpa using he
      have hs : ∀ j, j < i + 1 → nth a j = nth b j := fun j hj2 => by
        rcases Nat.lt_or_ge j i with h2 | h2
        · exact hj j h2
        · obtain rfl : j = i := by omega
          exact he
      simp (disch := omega) [-loadV, h0, h1, h5, ht, ho, hlo, vn, wn, vi, wi, vl, wl, h, hf, hmi, wrap_small]
      exact hs
    · have hf : (nth a i == nth b i) = false := by simpa using he
      have hst := sharedN_stop (a := a) (b := b) (i := i) (by omega) (by omega) hj (.inr (.inr he))
      simp (disch := omega) [-loadV, h0, h1, h5, ht, ho, hlo, vn, wn, vi, wi, vl, wl, h, hf, hmi, hst]
  · obtain rfl : i = m := by omega
    have hst := sharedN_stop (a := a) (b := b) (i := i) (by omega) (by omega) hj (by omega)
    simp [-loadV, h0, h1, h5, ht, ho, hlo, vn, wn, hmi, hst])
noncomputable def k_rsame : Ab.Spec := con2 some some fun v w objs => match ofIntsR .u8 objs v, ofIntsR .u8 objs w with | some a, some b => bnd a.length 140737488355328 (some (.int .i64 (sharedN a b), none)) | _, _ => none
noncomputable def T_rsame : CallF := withF T_shared 29 k_rsame
theorem T_rsame_ok : CallOk Try.prog T_rsame := con_of (A := annOf [] [] [] false []) fit T_shared_ok (fn := Try.f29) (by kernel_rfl) (by kernel_rfl) (by
  intro args objs r h0
  obtain ⟨v, w, _, _, rfl, hv, hw, hR⟩ := con2_inv h0
  cases hv; cases hw
  split at hR
  case h_2 => cases hR
  rename_i a b ha hb
  obtain ⟨hl, hR⟩ := bnd_inv hR
  cases hR
  obtain ⟨pa, vd, vn, vi, vl⟩ := bsR ha
  obtain ⟨pb, wd, wn, wi, wl⟩ := bsR hb
  refine .go _ rfl rfl ?_
  simp
  refine .up a.length (fun i s => i ≤ b.length ∧ s.env 0 = v ∧ s.env 1 = w ∧ s.env 5 = .int .i64 i ∧ s.toks = [] ∧ s.objs = objs ∧ s.low = objs.length ∧ ∀ j, j < i → nth a j = nth b j) (by simp) ?_
  rintro i s hi ⟨hib, h0, h1, h5, ht, ho, hlo, hj⟩
  rcases Nat.lt_or_ge i a.length with h | h
  · rcases Nat.lt_or_ge i b.length with h2 | h2
    · by_cases he : nth a i = nth b i
      · have hf : (nth a i != nth b i) = false := by simpa using he
        have hs : ∀ j, j < i + 1 → nth a j = nth b j := fun j hj2 => by
          rcases Nat.lt_or_ge j i with h2 | h2
          · exact hj j h2
          · obtain rfl : j = i := by omega
            exact he
        simp (disch := omega) [-loadV, h0, h1, h5, ht, ho, hlo, vn, wn, vi, wi, vl, wl, h, hf, wrap_small]
        exact ⟨by omega, hs⟩
      · have hf : (nth a i != nth b i) = true := by simpa using he
        have hst := sharedN_stop (a := a) (b := b) (i := i) (by omega) (by omega) hj (.inr (.inr he))
        simp (disch := omega) [-loadV, h0, h1, h5, ht, ho, hlo, vn, wn, vi, wi, vl, wl, h, hf, hst]
    · have hst := sharedN_stop (a := a) (b := b) (i := i) (by omega) (by omega) hj (by omega)
      simp (disch := omega) [-loadV, h0, h1, h5, ht, ho, hlo, vn, wn, vi, wi, vl, wl, h, hst]
  · have hst := sharedN_stop (a := a) (b := b) (i := i) (by omega) (by omega) hj (by omega)
    obtain rfl : i = a.length := by omega
    simp (disch := omega) [-loadV, h0, h1, h5, ht, ho, hlo, vn, wn, hst])
noncomputable def k_Order : Ab.Spec := con2 some some fun v w objs => match ofIntsR .u8 objs v, ofIntsR .u8 objs w with | some a, some b => bnd a.length 140737488355328 (some (.int .i64 (cmpZ a b), none)) | _, _ => none
noncomputable def T_Order : CallF := withF T_rsame 24 k_Order
theorem T_Order_ok : CallOk Try.prog T_Order := con_of (A := annOf [] [] [] false []) fit T_rsame_ok (fn := Try.f24) (by kernel_rfl) (by kernel_rfl) (by
  intro args objs r h0
  obtain ⟨v, w, _, _, rfl, hv, hw, hR⟩ := con2_inv h0
  cases hv; cases hw
  split at hR
  case h_2 => cases hR
  rename_i a b ha hb
  obtain ⟨hl, hR⟩ := bnd_inv hR
  cases hR
  obtain ⟨pa, vd, vn, vi, vl⟩ := bsR ha
  obtain ⟨pb, wd, wn, wi, wl⟩ := bsR hb
  refine .go _ rfl rfl ?_
  simp
  refine .up a.length (fun i s => i ≤ b.length ∧ s.env 0 = v ∧ s.env 1 = w ∧ s.env 5 = .int .i64 i ∧ s.toks = [] ∧ s.objs = objs ∧ s.low = objs.length ∧ ∀ j, j < i → nth a j = nth b j) (by simp) ?_
  rintro i s hi ⟨hib, h0, h1, h5, ht, ho, hlo, hj⟩
  have hc := cmpZ_at (a := a) (b := b) hi hib hj
  rcases Nat.lt_or_ge i a.length with h | h
  · have da := drop_nth h
    rcases Nat.lt_or_ge i b.length with h2 | h2
    · have db := drop_nth h2
      rw [da, db, cmpZ_cons] at hc
      by_cases hlt : nth a i < nth b i
      · rw [if_pos hlt] at hc
        simp (disch := omega) [-loadV, h0, h1, h5, ht, ho, hlo, vn, wn, vi, wi, vl, wl, h, h2, hlt, hc]
      · rw [if_neg hlt] at hc
        by_cases hgt : nth b i < nth a i
        · rw [if_pos hgt] at hc
          simp (disch := omega) [-loadV, h0, h1, h5, ht, ho, hlo, vn, wn, vi, wi, vl, wl, h, h2, hlt, hgt, hc]
        · have he : nth a i = nth b i := by omega
          have hs : ∀ j, j < i + 1 → nth a j = nth b j := fun j hj2 => by
            rcases Nat.lt_or_ge j i with h2 | h2
            · exact hj j h2
            · obtain rfl : j = i := by omega
              exact he
          simp (disch := omega) [-loadV, h0, h1, h5, ht, ho, hlo, vn, wn, vi, wi, vl, wl, h, h2, hlt, hgt, wrap_small]
          exact ⟨by omega, hs⟩
    · obtain rfl : i = b.length := by omega
      rw [da, List.drop_length] at hc
      have hc : cmpZ a b = 1 := hc
      simp (disch := omega) [-loadV, h0, h1, h5, ht, ho, hlo, vn, wn, h, hc]
  · obtain rfl : i = a.length := by omega
    rcases Nat.lt_or_ge a.length b.length with h2 | h2
    · have db := drop_nth h2
      rw [db, List.drop_length] at hc
      have hc : cmpZ a b = -1 := hc
      simp (disch := omega) [-loadV, h0, h1, h5, ht, ho, hlo, vn, wn, h, h2, hc]
    · have hab : a.length = b.length := by omega
      rw [List.drop_length, hab, List.drop_length] at hc
      have hc : cmpZ a b = 0 := hc
      simp (disch := omega) [-loadV, h0, h1, h5, ht, ho, hlo, vn, wn, hab, hc])

end Go.Proofs.Ytjjldepikokogaa.B
