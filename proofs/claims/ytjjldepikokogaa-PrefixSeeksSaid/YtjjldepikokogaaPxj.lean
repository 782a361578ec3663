import Derived.Test.YtjjldepikokogaaPxi
set_option linter.unusedSimpArgs false
set_option linter.unusedVariables false
set_option linter.unusedSectionVars false
set_option maxRecDepth 20000
set_option maxHeartbeats 1000000
namespace Go.Proofs.Ytjjldepikokogaa.B
open Go Go.Ab
/-! the order of texts, sorted lists -/
theorem cmpZ_vals : ∀ a b : List Int, cmpZ a b = -1 ∨ cmpZ a b = 0 ∨ cmpZ a b = 1
  | [], [] => .inr (.inl rfl)
  | [], _ :: _ => .inl rfl
  | _ :: _, [] => .inr (.inr rfl)
  | a :: p, b :: q => by
    rw [cmpZ_cons]
    split
    · exact .inl rfl
    · split
      · exact .inr (.inr rfl)
      · exact cmpZ_vals p q
theorem cmpZ_zero : ∀ {a b : List Int}, cmpZ a b = 0 → a = b
  | [], [], _ => rfl
  | [], _ :: _, h => by simp [cmpZ] at h
  | _ :: _, [], h => by simp [cmpZ] at h
  | a :: p, b :: q, h => by
    rw [cmpZ_cons] at h
    split at h
    · cases h
    · split at h
      · cases h
      · rw [cmpZ_zero h, show a = b by omega]
theorem cmpZ_swap : ∀ a b : List Int, cmpZ b a = - cmpZ a b
  | [], [] => rfl
  | [], _ :: _ => rfl
  | _ :: _, [] => rfl
  | a :: p, b :: q => by
    rw [cmpZ_cons, cmpZ_cons]
    by_cases h1 : a < b
    · rw [if_pos h1, if_neg (by omega), if_pos h1]; rfl
    · by_cases h2 : b < a
      · simp [h1, h2]
      · rw [if_neg h1, if_neg h2, if_neg h2, if_neg h1]; exact cmpZ_swap p q
theorem cmpZ_trans : ∀ {a b c : List Int}, cmpZ a b < 0 → cmpZ b c < 0 → cmpZ a c < 0
  | [], [], _, h, _ => by simp [cmpZ] at h
  | [], _ :: _, [], _, h => by simp [cmpZ] at h
  | [], _ :: _, _ :: _, _, _ => by simp [cmpZ]
  | _ :: _, [], _, h, _ => by simp [cmpZ] at h
  | _ :: _, _ :: _, [], _, h => by simp [cmpZ] at h
  | a :: p, b :: q, c :: r, h, k => by
    rw [cmpZ_cons] at h k ⊢
    split at h
    · split at k
      · rw [if_pos (by omega)]; decide
      · split at k
        · cases k
        · rw [if_pos (by omega)]; decide
    · split at h
      · cases h
      · split at k
        · rw [if_pos (by omega)]; decide
        · split at k
          · cases k
          · rw [if_neg (by omega), if_neg (by omega)]; exact cmpZ_trans h k
theorem pre_true {x : Option Rs} : pre True x = x := pre_pos trivial
def Srt (ts : List (List Int)) : Prop := ts.Pairwise fun a b => cmpZ a b < 0
theorem Srt.nth {ts : List (List Int)} (h : Srt ts) {i j : Nat} (hi : i < j) (hj : j < ts.length) : cmpZ (Ab.nth ts i) (Ab.nth ts j) < 0 := by
  rw [nth_lt hj, nth_lt (by omega : i < ts.length)]
  exact List.pairwise_iff_getElem.1 h i j _ _ hi
/-- How many stand ahead. -/
def aheadN (ts : List (List Int)) (s : List Int) : Nat := (ts.takeWhile fun t => decide (cmpZ t s < 0)).length
theorem ahead_stop {s : List Int} : ∀ {ts : List (List Int)} {i : Nat}, i ≤ ts.length → (∀ j, j < i → cmpZ (nth ts j) s < 0) → (i = ts.length ∨ ¬ cmpZ (nth ts i) s < 0) → aheadN ts s = i
  | [], i, h, _, _ => by simp at h; subst h; rfl
  | t :: ts, 0, _, _, h => by
    have h : ¬ cmpZ t s < 0 := by
      rcases h with h | h
      · simp at h
      · exact h
    simp [aheadN, h]
  | t :: ts, i + 1, h1, h2, h3 => by
    have h0 : cmpZ t s < 0 := h2 0 (by omega)
    have ih := ahead_stop (s := s) (ts := ts) (i := i) (by simpa using h1) (fun j hj => by have := h2 (j + 1) (by omega); rwa [nth_cons_succ] at this) (by
      rcases h3 with h | h
      · left; simpa using h
      · right; rwa [nth_cons_succ] at h)
    unfold aheadN at ih ⊢
    simp [h0, ih]
theorem ahead_le (ts : List (List Int)) (s : List Int) : aheadN ts s ≤ ts.length := by
  unfold aheadN; exact (List.takeWhile_sublist _).length_le
theorem ahead_less {s : List Int} : ∀ {ts : List (List Int)} {i : Nat}, i < aheadN ts s → cmpZ (nth ts i) s < 0
  | [], i, h => by simp [aheadN] at h
  | t :: ts, i, h => by
    by_cases h0 : cmpZ t s < 0
    · have e : aheadN (t :: ts) s = aheadN ts s + 1 := by simp [aheadN, h0]
      cases i with
      | zero => exact h0
      | succ i => rw [nth_cons_succ]; exact ahead_less (by omega)
    · have e : aheadN (t :: ts) s = 0 := by simp [aheadN, h0]
      omega
theorem ahead_not {s : List Int} : ∀ {ts : List (List Int)}, aheadN ts s < ts.length → ¬ cmpZ (nth ts (aheadN ts s)) s < 0
  | [], h => by simp at h
  | t :: ts, h => by
    by_cases h0 : cmpZ t s < 0
    · have e : aheadN (t :: ts) s = aheadN ts s + 1 := by simp [aheadN, h0]
      rw [e] at h ⊢
      rw [nth_cons_succ]
      exact ahead_not (by simpa using h)
    · have e : aheadN (t :: ts) s = 0 := by simp [aheadN, h0]
      rw [e]; exact h0
theorem ahead_srt {ts : List (List Int)} {s : List Int} (h : Srt ts) {i : Nat} (hi : i < ts.length) : (cmpZ (nth ts i) s < 0) ↔ i < aheadN ts s := by
  refine ⟨fun hc => ?_, ahead_less⟩
  rcases Nat.lt_or_ge i (aheadN ts s) with q | q
  · exact q
  · exfalso
    have hn := ahead_not (ts := ts) (s := s) (by omega)
    rcases Nat.eq_or_lt_of_le q with e | e
    · rw [e] at hn; exact hn hc
    · exact hn (cmpZ_trans (h.nth e hi) hc)
def ins (ts : List (List Int)) (s : List Int) : List (List Int) := if aheadN ts s < ts.length ∧ nth ts (aheadN ts s) = s then ts else ts.take (aheadN ts s) ++ s :: ts.drop (aheadN ts s)
theorem ins_srt {ts : List (List Int)} {s : List Int} (h : Srt ts) : Srt (ins ts s) := by
  unfold ins
  split
  · exact h
  rename_i hn
  have hl := ahead_le ts s
  obtain ⟨k, hk⟩ : ∃ k, k = aheadN ts s := ⟨_, rfl⟩
  rw [← hk] at hn hl ⊢
  have hd : ∀ b ∈ ts.drop k, cmpZ s b < 0 := fun b hb => by
    obtain ⟨j, hj, rfl⟩ := nth_of_mem hb
    rw [nth_drop]
    rw [List.length_drop] at hj
    have h1 : ¬ cmpZ (nth ts k) s < 0 := by rw [hk]; exact ahead_not (by omega)
    have h2 : cmpZ s (nth ts k) < 0 := by
      have := cmpZ_swap (nth ts k) s
      rcases cmpZ_vals (nth ts k) s with q | q | q
      · omega
      · exact absurd ⟨by omega, cmpZ_zero q⟩ hn
      · omega
    rcases Nat.eq_zero_or_pos j with e | e
    · subst e; exact h2
    · exact cmpZ_trans h2 (h.nth (by omega) (by omega))
  have ht : ∀ a ∈ ts.take k, cmpZ a s < 0 := fun a ha => by
    obtain ⟨j, hj, rfl⟩ := nth_of_mem ha
    rw [List.length_take] at hj
    rw [nth_take (by omega)]
    exact ahead_less (by omega)
  have hp : (ts.take k ++ ts.drop k).Pairwise fun a b => cmpZ a b < 0 := by rw [List.take_append_drop]; exact h
  obtain ⟨p1, p2, p3⟩ := List.pairwise_append.1 hp
  refine List.pairwise_append.2 ⟨p1, List.pairwise_cons.2 ⟨hd, p2⟩, fun a ha b hb => ?_⟩
  rcases List.mem_cons.1 hb with q | q
  · rw [q]; exact ht a ha
  · exact p3 a ha b q
theorem ins_mem {ts : List (List Int)} {s t : List Int} (h : t ∈ ins ts s) : t ∈ ts ∨ t = s := by
  unfold ins at h
  split at h
  · exact .inl h
  · rcases List.mem_append.1 h with q | q
    · exact .inl (List.mem_of_mem_take q)
    · rcases List.mem_cons.1 q with q | q
      · exact .inr q
      · exact .inl (List.mem_of_mem_drop q)
theorem ins_len (ts : List (List Int)) (s : List Int) : (ins ts s).length ≤ ts.length + 1 := by
  unfold ins
  split
  · omega
  · rw [List.length_append, List.length_cons, List.length_take, List.length_drop]; omega
/-- The texts, sorted, each once. -/
def idx (ss : List (List Int)) : Nat → List (List Int)
  | 0 => []
  | i + 1 => ins (idx ss i) (nth ss i)
theorem idx_facts (ss : List (List Int)) : ∀ i, i ≤ ss.length → Srt (idx ss i) ∧ (idx ss i).length ≤ i ∧ ∀ t ∈ idx ss i, t ∈ ss
  | 0, _ => ⟨List.Pairwise.nil, by simp [idx], by simp [idx]⟩
  | i + 1, h => by
    obtain ⟨h1, h2, h3⟩ := idx_facts ss i (by omega)
    refine ⟨ins_srt h1, ?_, fun t ht => ?_⟩
    · have := ins_len (idx ss i) (nth ss i); simp only [idx]; omega
    · rcases ins_mem ht with q | q
      · exact h3 t q
      · rw [q]; exact nth_mem (by omega)

end Go.Proofs.Ytjjldepikokogaa.B
