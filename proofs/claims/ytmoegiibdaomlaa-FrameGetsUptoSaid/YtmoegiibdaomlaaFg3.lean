import Derived.Test.YtmoegiibdaomlaaFg2
set_option linter.unusedSimpArgs false
set_option linter.unusedVariables false
set_option linter.unusedSectionVars false
set_option maxRecDepth 20000
set_option maxHeartbeats 1000000
namespace Go.Proofs.Ytmoegiibdaomlaa.B
open Go Go.Ab
def scanW (L : List (Int × V)) : V := if L = [] then .nils else .lst .frozen (flatV frW L) L.length
def scX (l : List Int) : List (Int × List Int) × Int × Int := scZ l l.length 0
def p_ScanK : List V → List AO → Rs → Prop := fun args objs r => match args with | [v] => ∃ l L o2 low, ofInts .u8 v = some l ∧ r = (.tup [scanW L, .int .i64 (scX l).2.1, .int .i64 (scX l).2.2], some (objs ++ o2, low)) ∧ Held (objs ++ o2) (L.map (·.2)) ((scX l).1.map (·.2)) ∧ L.map (·.1) = (scX l).1.map (·.1) ∧ ∀ u, u ∈ L.map (·.2) → ∀ id, idOf u = some id → objs.length ≤ id | _ => False
noncomputable def k_ScanK : Ab.Spec := relF (fun a o r => p_ScanK a o r ∧ EndsW Try.prog (annOf [] [] [] true [16]) T_GetK 19 Try.f19 a o r)
noncomputable def T_ScanK : CallF := withF T_GetK 19 k_ScanK
theorem T_ScanK_ok : CallOk Try.prog T_ScanK := con_ofW (A := annOf [] [] [] true [16]) fit T_GetK_ok (fn := Try.f19) (by kernel_rfl) (by kernel_rfl) (fun args objs r h0 => (relF_inv h0).2)
theorem s_ScanK  {objs : List AO} {v : V} {l : List Int} (ha : ofInts .u8 v = some l) (hl : l.length < 50000000000000) (hB : B8 l) : ∃ r, k_ScanK [v] objs = some r ∧ p_ScanK [v] objs r := by
  have c_GetK : ∀ a o, T_GetK 16 a o = k_GetK a o := fun _ _ => rfl
  have hb8 : b8 l = true := b8_iff.2 hB
  obtain ⟨vd, vn, vi, -⟩ := bs ha
  obtain ⟨X, hX⟩ : ∃ X, X = scZ l l.length 0 := ⟨_, rfl⟩
  have hX' : scX l = X := hX.symm
  refine rel_goT _ rfl rfl ?_
  simp
  obtain ⟨I, hI⟩ : ∃ I : Nat → St → Prop, I = fun (i : Nat) (s : St) => s.env 0 = v ∧ ∃ (L : List (Int × V)) (acc : List (Int × List Int)) (a : Int) (o2 : List AO), s.env 6 = .int .i64 a ∧ (i : Int) ≤ a ∧ a ≤ l.length ∧ (acc.length : Int) * 13 ≤ a ∧ X = (acc ++ (scZ l (l.length - i) a).1, (scZ l (l.length - i) a).2) ∧ s.objs = objs ++ o2 ∧ Held s.objs (L.map (·.2)) (acc.map (·.2)) ∧ L.map (·.1) = acc.map (·.1) ∧ (∀ u, u ∈ L.map (·.2) → ∀ id, idOf u = some id → objs.length ≤ id ∧ id < s.objs.length) ∧
    (L = [] ∧ s.env 5 = .nils ∧ s.toks = [] ∨ L ≠ [] ∧ s.env 5 = .lst (.tok 0 2) (flatV frW L) L.length ∧ s.toks = [(flatV frW L).length]) := ⟨_, rfl⟩
  refine .up l.length I (by rw [hI]; exact ⟨by simp, [], [], 0, [], by simp, by simp, by omega, by simp, by simp [hX], by simp, Held.nil, rfl, by simp, .inl ⟨rfl, by simp, by simp⟩⟩) ?_
  intro i s hi hs
  rw [hI] at hs
  obtain ⟨g0, L, acc, a, o2, g6, hia, hal, h13, hXa, ho, hH, hm1, hid, h5⟩ := hs
  have hLa : L.length = acc.length := by have := congrArg List.length hm1; simpa using this
  have hflen := flatV_len frW_len L
  obtain ⟨O, hO⟩ : ∃ O, O = s.objs := ⟨_, rfl⟩
  have ho' := hO.symm
  rw [← hO] at hH hid ho
  by_cases hlt : a < (l.length : Int)
  · have hlt' : i < l.length := by omega
    obtain ⟨n, hn⟩ : ∃ n, l.length - i = n + 1 := ⟨l.length - i - 1, by omega⟩
    rw [hn] at hXa
    by_cases he : (getZ l a).err ≠ 0
    · rw [scZ_bad hlt he] at hXa
      obtain ⟨e, hge, he0⟩ := get_bad he
      rw [hge, bad_err] at hXa
      have he' : (e != 0) = true := by simpa using he0
      simp only [List.append_nil] at hXa
      have hfk : frameK O.length (Got.bad e) = .agg [.int .i64 0, .nils] := rfl
      have hfo : frameO O.length (Got.bad e) = [.cells [.int .i64 0, .nils] 0] := rfl
      have fin : ∀ r low, r = (V.tup [scanW L, .int .i64 a, .int .i64 e], some (O ++ [AO.cells [.int .i64 0, .nils] 0, AO.cells [.int .i64 0, .nils] 0], low)) → p_ScanK [v] objs r := by
        rintro r low rfl
        refine ⟨l, L, o2 ++ [AO.cells [.int .i64 0, .nils] 0, AO.cells [.int .i64 0, .nils] 0], low, ha, by rw [hX', hXa, ho]; simp, ?_, by rw [hX', hXa]; exact hm1, fun u hu id q => (hid u hu id q).1⟩
        rw [hX', hXa, ← List.append_assoc, ← ho]
        exact hH.app
      rcases h5 with ⟨rfl, g5, ht⟩ | ⟨hne, g5, ht⟩
      · simp -implicitDefEqProofs (disch := omega) [g0, g6, g5, ht, ho', vn, vd, ha, hlt, c_GetK, k_GetK, hb8, hge, hfk, hfo, bad_next, bad_err, setCells, he']
        exact fin _ _ rfl
      · have hs : scanW L = .lst .frozen (flatV frW L) L.length := if_neg hne
        rw [hs] at fin
        simp -implicitDefEqProofs (disch := omega) [g0, g6, g5, ht, ho', vn, vd, ha, hlt, c_GetK, k_GetK, hb8, hge, hfk, hfo, bad_next, bad_err, setCells, he']
        exact fin _ _ rfl
    · obtain ⟨k, b, hge, hpe, h0a, hnx⟩ := get_ok hB (Decidable.byContradiction he)
      rw [scZ_ok hlt hge] at hXa
      obtain ⟨x, hx⟩ : ∃ x, x = a + ((b.length : Int) + 13) := ⟨_, rfl⟩
      rw [← hx] at hge hXa hnx
      obtain ⟨R, hR⟩ : ∃ R : V, R = .ref (O.length + 1) 0 0 b.length 1 := ⟨_, rfl⟩
      have hfk : frameK O.length ⟨k, some b, x, 0⟩ = .agg [.int .i64 k, R] := by rw [hR]; rfl
      have hfo : frameO O.length ⟨k, some b, x, 0⟩ = [.cells [.int .i64 k, R] 0, .cells (ints .u8 b) 0] := by rw [hR]; rfl
      have hX2 : X = ((acc ++ [(k, b)]) ++ (scZ l (l.length - (i + 1)) x).1, (scZ l (l.length - (i + 1)) x).2) := by
        rw [hXa, show l.length - (i + 1) = n by omega]; simp
      have fl1 := flit1 k R (by rw [hR]; rfl) (by rw [hR]; rfl)
      have hRd : isDef R = true ∧ oneCell R = true := by rw [hR]; exact ⟨rfl, rfl⟩
      have fs1 : flatV frW L ++ [.int .i64 k, R] = flatV frW (L ++ [(k, R)]) := flatV_snoc (f := frW) (a := (k, R))
      obtain ⟨m3, hm3⟩ : ∃ m3, m3 = [AO.cells [.int .i64 k, R] 0, AO.cells (ints .u8 b) 0, AO.cells [.int .i64 k, R] 0] := ⟨_, rfl⟩
      have hH2 : Held (O ++ m3) ((L ++ [(k, R)]).map (·.2)) ((acc ++ [(k, b)]).map (·.2)) := by
        rw [List.map_append, List.map_append]
        refine hH.app.snoc (.inr ⟨O.length + 1, 0, hR, by rw [hm3]; simp⟩) fun u id hu hq => ?_
        have := hid u hu id hq
        rw [hR]; simp [idOf]; omega
      have hid2 : ∀ u, u ∈ (L ++ [(k, R)]).map (·.2) → ∀ id, idOf u = some id → objs.length ≤ id ∧ id < (O ++ m3).length := by
        intro u hu id hq
        have hml : m3.length = 3 := by rw [hm3]; rfl
        have hOl : objs.length ≤ O.length := by rw [ho]; simp
        rw [List.length_append, hml]
        rw [List.map_append] at hu
        rcases List.mem_append.1 hu with q | q
        · have := hid u q id hq; omega
        · simp at q; subst q
          rw [hR] at hq; simp [idOf] at hq; omega
      have fin : ((acc ++ [(k, b)]).length : Int) * 13 ≤ x := by simp; omega
      have hm2 : (L ++ [(k, R)]).map (·.1) = (acc ++ [(k, b)]).map (·.1) := by simp [hm1]
      rcases h5 with ⟨rfl, g5, ht⟩ | ⟨hne, g5, ht⟩
      · simp -implicitDefEqProofs (disch := omega) [g0, g6, g5, ht, ho', vn, vd, ha, hlt, c_GetK, k_GetK, hb8, hge, hfk, hfo, setCells, fl1, hRd.1, hRd.2]
        rw [← hm3, hI]
        exact ⟨hlt', by simp [g0], [(k, R)], acc ++ [(k, b)], x, o2 ++ m3, by simp, by omega, hnx, fin, hX2, by rw [ho]; simp, hH2, hm2, hid2, .inr ⟨by simp, by simp [flatV_one, frW], by simp [flatV_one, frW]⟩⟩
      · simp -implicitDefEqProofs (disch := omega) [g0, g6, g5, ht, ho', vn, vd, ha, hlt, c_GetK, k_GetK, hb8, hge, hfk, hfo, setCells, fl1, fs1, hflen, hRd.1, hRd.2]
        rw [← hm3, hI]
        exact ⟨hlt', by simp [g0], L ++ [(k, R)], acc ++ [(k, b)], x, o2 ++ m3, by simp, by omega, hnx, fin, hX2, by rw [ho]; simp, hH2, hm2, hid2, .inr ⟨by simp, by simp, by rw [flatV_len frW_len]; simp; omega⟩⟩
  · rw [scZ_end hlt] at hXa
    simp only [List.append_nil] at hXa
    have fin : ∀ r low, r = (V.tup [scanW L, .int .i64 a, .int .i64 0], some (O, low)) → p_ScanK [v] objs r := by
      rintro r low rfl
      exact ⟨l, L, o2, low, ha, by rw [hX', hXa, ho], by rw [hX', hXa, ← ho]; exact hH, by rw [hX', hXa]; exact hm1, fun u hu id q => (hid u hu id q).1⟩
    rcases h5 with ⟨rfl, g5, ht⟩ | ⟨hne, g5, ht⟩
    · simp -implicitDefEqProofs (disch := omega) [g0, g6, g5, ht, ho', vn, hlt]
      exact fin _ _ rfl
    · have hs : scanW L = .lst .frozen (flatV frW L) L.length := if_neg hne
      rw [hs] at fin
      simp -implicitDefEqProofs (disch := omega) [g0, g6, g5, ht, ho', vn, hlt]
      exact fin _ _ rfl

end Go.Proofs.Ytmoegiibdaomlaa.B
