import Derived.Test.YtmoegiibdaomlaaFs1
set_option linter.unusedSimpArgs false
set_option linter.unusedVariables false
set_option linter.unusedSectionVars false
set_option maxRecDepth 20000
set_option maxHeartbeats 1000000
namespace Go.Proofs.Ytmoegiibdaomlaa.B
open Go Go.Ab
/-! frames in a row, plain mathematics -/
theorem rest_cut {k : Int} {l : List Int} (hl : B8 l) (hp : putErr k l = 0) {m : Nat} (hm : m < l.length + 13) (p : Int) : restZ ((frameZ k l).take m) p = .bad 2 := by
  obtain ⟨h1, h2, h3⟩ := putErr_zero.1 hp
  have hr : B8 ((frameZ k l).take m) := (frameZ_B8 hl).take _
  have hlen : ((frameZ k l).take m).length = m := by rw [List.length_take, frameZ_len]; omega
  by_cases h9 : m < 9
  · unfold restZ; rw [if_pos (by omega)]
  have hn : ∀ i, i < 5 → nth ((frameZ k l).take m) i = nth (leadZ k l.length) i := by
    intro i hi
    rw [nth_take (by omega)]
    have := frame_nth (k := k) (l := l) [] hi
    rwa [List.append_nil] at this
  have hnz : nZ ((frameZ k l).take m) = l.length := by
    rw [nZ_eq hr, hn 1 (by omega), hn 2 (by omega), hn 3 (by omega), hn 4 (by omega)]
    exact frame_n (m := []) (by omega)
  have h0 : nth ((frameZ k l).take m) 0 = k := by
    rw [hn 0 (by omega)]
    show IntKind.u8.wrap k = k
    exact wrap_u8 (by omega) (by omega)
  have e9 : ((frameZ k l).take m).take 9 = sealZ (leadZ k l.length) := by
    rw [List.take_take, Nat.min_eq_left (by omega)]
    have := frame_take9 k l []
    rwa [List.append_nil] at this
  unfold restZ
  rw [if_neg (by omega), e9, sealed_seal, if_neg (by simp), h0, if_neg (by omega), hnz, if_neg (by omega), if_pos (by omega)]
def allZ (K : List (Int × List Int)) : List Int := K.flatMap fun r => frameZ r.1 r.2
theorem allZ_app (a b : List (Int × List Int)) : allZ (a ++ b) = allZ a ++ allZ b := by simp [allZ]
theorem allZ_one (r : Int × List Int) : allZ [r] = frameZ r.1 r.2 := by simp [allZ]
def endZ (K : List (Int × List Int)) (j : Nat) : Nat := (allZ (K.take j)).length
theorem allZ_split {K : List (Int × List Int)} {j : Nat} (h : j < K.length) : allZ K = allZ (K.take j) ++ frameZ (nth K j).1 (nth K j).2 ++ allZ (K.drop (j + 1)) := by
  conv => lhs; rw [← List.take_append_drop (j + 1) K]
  rw [allZ_app, take_nth h, allZ_app, allZ_one]
theorem endZ_succ {K : List (Int × List Int)} {j : Nat} (h : j < K.length) : endZ K (j + 1) = endZ K j + ((nth K j).2.length + 13) := by
  unfold endZ
  rw [take_nth h, allZ_app, allZ_one, List.length_append, frameZ_len]
theorem endZ_le {K : List (Int × List Int)} (j : Nat) : endZ K j ≤ (allZ K).length := by
  have : allZ K = allZ (K.take j) ++ allZ (K.drop j) := by rw [← allZ_app, List.take_append_drop]
  unfold endZ
  rw [this, List.length_append]; omega
theorem endZ_all (K : List (Int × List Int)) : endZ K K.length = (allZ K).length := by unfold endZ; rw [List.take_length]
def Good (K : List (Int × List Int)) : Prop := ∀ r ∈ K, putErr r.1 r.2 = 0 ∧ B8 r.2
theorem allZ_B8 {K : List (Int × List Int)} (h : Good K) : B8 (allZ K) := fun c hc => by
  obtain ⟨r, hr, hc⟩ := List.mem_flatMap.1 hc
  exact frameZ_B8 (h r hr).2 c hc
theorem good_sub {K L : List (Int × List Int)} (h : Good K) (hs : ∀ r ∈ L, r ∈ K) : Good L := fun r hr => h r (hs r hr)
theorem scan_at {K : List (Int × List Int)} (hK : Good K) {c n : Nat} (hn : n ≤ K.length) (hc : c ≤ (allZ K).length) (he : endZ K n ≤ c) (hx : n = K.length ∨ c < endZ K (n + 1)) :
    ∀ d j F, j + d = n → d + 1 ≤ F → scZ ((allZ K).take c) F (endZ K j : Nat) = ((K.take n).drop j, ((endZ K n : Nat) : Int), if endZ K n = c then 0 else 2) := by
  have hcl : ((allZ K).take c).length = c := by rw [List.length_take]; omega
  intro d
  induction d with
  | zero =>
    intro j F hj hF
    obtain rfl : j = n := by omega
    have hdr : (K.take j).drop j = [] := List.drop_eq_nil_of_le (by rw [List.length_take]; omega)
    rw [hdr]
    by_cases hec : endZ K j = c
    · rw [if_pos hec, scZ_end (by omega)]
    · have hjK : j < K.length := by
        rcases hx with q | q
        · exfalso; rw [q, endZ_all] at hec he; omega
        · rcases Nat.lt_or_ge j K.length with z | z
          · exact z
          · exfalso
            have : j = K.length := by omega
            rw [this, endZ_all] at hec he; omega
      have hxx : c < endZ K (j + 1) := by
        rcases hx with q | q
        · omega
        · exact q
      have hs := endZ_succ hjK
      have hg := hK _ (nth_mem hjK)
      have hcut : ((allZ K).take c).drop (endZ K j) = (frameZ (nth K j).1 (nth K j).2).take (c - endZ K j) := by
        rw [allZ_split hjK, List.append_assoc, List.take_append, List.drop_append]
        have e1 : (allZ (K.take j)).length = endZ K j := rfl
        rw [e1, List.take_of_length_le (by omega), List.drop_eq_nil_of_le (by rw [e1]; omega), List.nil_append, e1, Nat.sub_self, List.drop_zero, List.take_append_of_le_length (by rw [frameZ_len]; omega)]
      have hget : getZ ((allZ K).take c) (endZ K j : Nat) = .bad 2 := by
        unfold getZ
        rw [if_neg (by omega), Int.toNat_natCast, hcut]
        exact rest_cut hg.2 hg.1 (by omega) _
      obtain ⟨F, rfl⟩ : ∃ G, F = G + 1 := ⟨F - 1, by omega⟩
      have hb := scZ_bad (l := (allZ K).take c) (a := (endZ K j : Nat)) (by omega) (by rw [hget]; decide) F
      rw [hget] at hb
      rw [hb, if_neg hec]; rfl
  | succ d ih =>
    intro j F hj hF
    have hjK : j < K.length := by omega
    have hs := endZ_succ hjK
    have hg := hK _ (nth_mem hjK)
    obtain ⟨F, rfl⟩ : ∃ G, F = G + 1 := ⟨F - 1, by omega⟩
    have hmono : endZ K (j + 1) ≤ endZ K n := by
      unfold endZ
      have : K.take (j + 1) = (K.take n).take (j + 1) := by rw [List.take_take, Nat.min_eq_left (by omega)]
      rw [this]
      exact endZ_le (K := K.take n) (j + 1)
    have hcut : (allZ K).take c = allZ (K.take j) ++ frameZ (nth K j).1 (nth K j).2 ++ (allZ (K.drop (j + 1))).take (c - endZ K (j + 1)) := by
      rw [allZ_split hjK, List.take_append]
      have e1 : (allZ (K.take j) ++ frameZ (nth K j).1 (nth K j).2).length = endZ K (j + 1) := by rw [List.length_append, frameZ_len, hs]; rfl
      rw [e1, List.take_of_length_le (by omega)]
    have hm : B8 ((allZ (K.drop (j + 1))).take (c - endZ K (j + 1))) := (allZ_B8 (good_sub hK fun r hr => List.mem_of_mem_drop hr)).take _
    have hgp := get_put (a := allZ (K.take j)) hg.2 hm hg.1
    rw [← hcut] at hgp
    have e0 : ((allZ (K.take j)).length : Int) = (endZ K j : Nat) := rfl
    rw [e0] at hgp
    have hok := scZ_ok (l := (allZ K).take c) (a := (endZ K j : Nat)) (by omega) hgp F
    have hnx : ((endZ K j : Nat) : Int) + (((nth K j).2.length : Int) + 13) = (endZ K (j + 1) : Nat) := by rw [hs]; omega
    rw [hnx, ih (j + 1) F (by omega) (by omega)] at hok
    rw [hok]
    have hdr : (K.take n).drop j = nth K j :: (K.take n).drop (j + 1) := by
      have hl : j < (K.take n).length := by rw [List.length_take]; omega
      rw [List.drop_eq_getElem_cons hl, ← nth_lt hl, nth_take (by omega)]
    rw [hdr]
theorem scan_all {K : List (Int × List Int)} (hK : Good K) {c n : Nat} (hn : n ≤ K.length) (hc : c ≤ (allZ K).length) (he : endZ K n ≤ c) (hx : n = K.length ∨ c < endZ K (n + 1)) :
    scZ ((allZ K).take c) ((allZ K).take c).length 0 = (K.take n, ((endZ K n : Nat) : Int), if endZ K n = c then 0 else 2) := by
  have hcl : ((allZ K).take c).length = c := by rw [List.length_take]; omega
  have hle : ∀ j, j ≤ K.length → 13 * j ≤ endZ K j := by
    intro j
    induction j with
    | zero => intro _; omega
    | succ j ih => intro h; have := ih (by omega); have := endZ_succ (K := K) (j := j) (by omega); omega
  have h13 := hle n hn
  rw [hcl]
  rcases Nat.lt_or_ge n c with q | q
  · have := scan_at hK hn hc he hx n 0 c (by omega) (by omega)
    simpa [endZ, allZ] using this
  · have hn0 : n = 0 := by omega
    have hc0 : c = 0 := by omega
    subst hn0; subst hc0
    simp [scZ, endZ, allZ]

end Go.Proofs.Ytmoegiibdaomlaa.B
