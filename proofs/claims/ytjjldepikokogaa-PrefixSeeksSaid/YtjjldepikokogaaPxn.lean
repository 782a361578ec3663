import Derived.Test.YtjjldepikokogaaPxm
set_option linter.unusedSimpArgs false
set_option linter.unusedVariables false
set_option linter.unusedSectionVars false
set_option maxRecDepth 20000
set_option maxHeartbeats 1000000
namespace Go.Proofs.Ytjjldepikokogaa.B
open Go Go.Ab
noncomputable def k_PrefixSeeks : Ab.Spec := con2 (ofList (ofInts .u8)) (ofInts .u8) fun ss s objs => match objs with | [] => bnd ss.length 140737488355328 (if shortT ss = true ∧ b8T ss = true ∧ b8 s = true then some (.bool true, none) else none) | _ => none
noncomputable def T_PrefixSeeks : CallF := withF T_pSeek 6 k_PrefixSeeks
theorem T_PrefixSeeks_ok : CallOk Try.prog T_PrefixSeeks := con_of (A := annOf [] [] [] false []) fit T_pSeek_ok (fn := Try.f6) (by kernel_rfl) (by kernel_rfl) (by
  intro args objs r h0
  have c_alive : ∀ a o, T_pSeek 7 a o = k_alive a o := fun _ _ => rfl
  have c_Index10 : ∀ a o, T_pSeek 23 a o = k_Index10 a o := fun _ _ => rfl
  have c_pEncode : ∀ a o, T_pSeek 9 a o = k_pEncode a o := fun _ _ => rfl
  have c_pSeek : ∀ a o, T_pSeek 16 a o = k_pSeek a o := fun _ _ => rfl
  have c_Order : ∀ a o, T_pSeek 24 a o = k_Order a o := fun _ _ => rfl
  obtain ⟨v, w, ss, s, rfl, ha, hb, hR⟩ := con2_inv h0
  split at hR
  case h_2 => cases hR
  obtain ⟨hl, hR⟩ := bnd_inv hR
  split at hR
  case isFalse => cases hR
  rename_i hc
  obtain ⟨hall, h8s, h8⟩ := hc
  cases hR
  obtain ⟨vd, vn, -⟩ := tx ha
  obtain ⟨wd, -⟩ := bs hb
  refine .go _ rfl rfl ?_
  by_cases hbad : encBad ss = true
  · have n1 : ofList (ofInts .u8) V.nils = some [] := rfl
    have n2 : encBad [] = false := rfl
    have n3 : shortT [] = true := rfl
    simp -implicitDefEqProofs (disch := omega) [c_alive, k_alive, c_Index10, k_Index10, c_pEncode, k_pEncode, vd, ha, hall, hbad, n1, n2, n3]
  have hbad : encBad ss = false := by simpa using hbad
  obtain ⟨n1, n2⟩ := not_bad hbad
  obtain ⟨i1, i2, i3⟩ := idx_facts ss ss.length (Nat.le_refl _)
  obtain ⟨E, hE⟩ : ∃ E, E = idxX ss := ⟨_, rfl⟩
  have hE' : idx ss ss.length = E := hE.symm
  rw [hE'] at i1 i2 i3
  have hE200 : ∀ i, i < E.length → (nth E i).length ≤ 200 := fun i hi => by
    obtain ⟨j, hj, e⟩ := nth_of_mem (i3 _ (nth_mem hi))
    rw [← e]; exact n2 j hj
  have hEbad : encBad E = false := by
    unfold encBad
    simp only [Bool.or_eq_false_iff, decide_eq_false_iff_not, List.any_eq_false, decide_eq_true_eq]
    refine ⟨by omega, fun t ht => ?_⟩
    obtain ⟨j, hj, rfl⟩ := nth_of_mem ht
    have := hE200 j hj; omega
  have hEs : shortT E = true := shortT_iff.2 fun t ht => by
    obtain ⟨j, hj, rfl⟩ := nth_of_mem ht
    have := hE200 j hj; omega
  obtain ⟨q1, q2⟩ := not_bad hEbad
  have hl2 := encT_len q1 E.length q2
  have hl3 : (encP E).length ≤ 10 + 220 * E.length := hl2
  obtain ⟨d1, d2, -⟩ := dec_enc q1 q2
  have p8 : b8 (encP E) = true := encP_bytes fun t ht => b8T_iff.1 h8s t (i3 t ht)
  have e1 : ofInts .u8 (.lst .frozen (ints .u8 (encP E)) (encP E).length) = some (encP E) := ofInts_lst rfl
  have e2 := txV_of (ss := E) rfl
  have hr := txV_refs E 0
  have ha1 := ahead_le E s
  have ha2 : ¬ E.length < aheadN E s := by omega
  obtain ⟨ud, un, ui, uc⟩ := txx E
  have r2 : ∀ O, ofIntsR .u8 O w = some s := fun O => ofIntsR_of hb
  obtain ⟨n, hn⟩ : ∃ n, n = aheadN E s := ⟨_, rfl⟩
  have hsr := fun i (hi : i < E.length) => ahead_srt (s := s) i1 hi
  rw [← hn] at ha1 ha2 hsr
  simp -implicitDefEqProofs (disch := omega) [c_alive, k_alive, c_Index10, k_Index10, c_pEncode, k_pEncode, c_pSeek, k_pSeek, vd, wd, ha, hb, hall, hbad, ← hE, e1, e2, hEbad, hEs, d1, d2, p8, h8, un, ← hn, ha2]
  obtain ⟨u, hu⟩ : ∃ u, u = V.lst .frozen (txV E) E.length := ⟨_, rfl⟩
  obtain ⟨I, hI⟩ : ∃ I : Nat → St → Prop, I = (fun (i : Nat) (s' : St) => s'.env 1 = w ∧ s'.env 10 = .int .i64 n ∧ s'.env 51 = .lst .frozen (txV E) E.length ∧ s'.env 52 = .int .i64 E.length ∧ s'.env 53 = .int .i64 i ∧ s'.toks = [] ∧ s'.objs = [] ∧ s'.low = 0) := ⟨_, rfl⟩
  refine .up E.length I (by rw [hI]; exact ⟨by simp, by simp, by simp, by simp, by simp, by simp, by simp, by simp⟩) ?_
  intro i s' hi hs
  rw [hI] at hs
  obtain ⟨g1, g10, g51, g52, g53, ht, ho, hlo⟩ := hs
  rcases Nat.lt_or_ge i E.length with h | h
  · obtain ⟨c1, c1'⟩ := uc i h
    have i1 := ui .i64 i (by omega) (by omega)
    rw [Int.toNat_natCast] at i1
    have r1 : ∀ O, ofIntsR .u8 O (.lst .frozen (ints .u8 (nth E i)) (nth E i).length) = some (nth E i) := fun O => ofIntsR_of (ofInts_lst rfl)
    have hL := hE200 i h
    by_cases hc : i < n
    · have hc2 := (hsr i h).2 hc
      simp -implicitDefEqProofs (disch := omega) [g1, g10, g51, g52, g53, ht, ho, hlo, h, i1, c1, c1', wd, c_Order, k_Order, r1, r2, hL, hc, hc2, wrap_small]
      rw [hI]
      exact ⟨by simp [g1], by simp [g10], by simp [g51], by simp [g52], by simp, by simp, by simp, by simp⟩
    · have hc2 : ¬ cmpZ (nth E i) s < 0 := fun q => hc ((hsr i h).1 q)
      simp -implicitDefEqProofs (disch := omega) [g1, g10, g51, g52, g53, ht, ho, hlo, h, i1, c1, c1', wd, c_Order, k_Order, r1, r2, hL, hc, hc2, wrap_small]
      rw [hI]
      exact ⟨by simp [g1], by simp [g10], by simp [g51], by simp [g52], by simp, by simp, by simp, by simp⟩
  · obtain rfl : i = E.length := by omega
    simp -implicitDefEqProofs (disch := omega) [g1, g10, g51, g52, g53, ht, ho, hlo])
theorem walk_PrefixSeeks {D M n : Nat} {vs : List V} {args : Array Value} {W : World} (hS : ShpAll Try.prog D M n [22, 25] vs) (hA : AR (top W) W vs args.toList) : Calls Try.prog 6 args W fun e W' => e = .returned (.bool true) ∧ Go.RowKit.Below W.heap.size W W' := by
  match vs, hS with
  | [v0, v1], ⟨s0, s1, _⟩ =>
    obtain ⟨ss, d0, b0, n0, -⟩ := in_texts s0
    obtain ⟨b, d1, b1, n1, -⟩ := in_bytes s1
    have hall : shortT ss = true := shortT_iff.2 fun s hs => (by have := (b0 s hs).2.1; omega)
    have h8 : b8T ss = true := b8T_iff.2 fun s hs => (b0 s hs).1
    refine whole fit T_PrefixSeeks_ok (fn := Try.f6) (by kernel_rfl) (by kernel_rfl) ?_ hA
    show k_PrefixSeeks [v0, v1] [] = _
    simp (disch := omega) [k_PrefixSeeks, d0, d1, b1, hall, h8]

end Go.Proofs.Ytjjldepikokogaa.B
