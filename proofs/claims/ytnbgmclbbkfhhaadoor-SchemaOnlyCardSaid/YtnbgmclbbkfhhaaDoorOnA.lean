import Derived.Test.YtnbgmclbbkfhhaaDoorBkA
set_option linter.unusedSimpArgs false
set_option linter.unusedVariables false
set_option linter.unusedSectionVars false
set_option maxRecDepth 20000
set_option maxHeartbeats 1000000
namespace Go.Proofs.YtnbgmclbbkfhhaaDoor.B
open Go Go.Ab
/-! what is got is put back -/
theorem piece_one {b : List Int} {p : Nat} (h : p < b.length) : (b.take (p + 1)).drop p = [nth b p] := by
  rw [List.drop_take, show p + 1 - p = 1 by omega, nth_lt h, List.drop_eq_getElem_cons h]; rfl
theorem piece_join {b : List Int} {i j k : Nat} (h1 : i ≤ j) (h2 : j ≤ k) : (b.take j).drop i ++ (b.take k).drop j = (b.take k).drop i := by
  rw [List.drop_take, List.drop_take, List.drop_take]
  have e : b.drop j = (b.drop i).drop (j - i) := by rw [List.drop_drop]; congr 1; omega
  have e2 : k - i = (j - i) + (k - j) := by omega
  rw [e, e2, List.take_add]
theorem piece_take {b : List Int} {i n : Nat} : (b.drop i).take n = (b.take (i + n)).drop i := by rw [List.drop_take]; congr 1; omega
theorem cget_only {k : Int} {b : List Int} {p : Int} (h8 : b8 b = true) (he : (cgetZ k b p).err = 0) :
    checkR k true (cgetZ k b p).n (cgetZ k b p).i ((cgetZ k b p).b.getD []) = 0 ∧ 0 ≤ p ∧ p ≤ (cgetZ k b p).next ∧ (cgetZ k b p).next ≤ b.length ∧
      cputZ k (cgetZ k b p).n (cgetZ k b p).i ((cgetZ k b p).b.getD []) = (b.take (cgetZ k b p).next.toNat).drop p.toNat := by
  have hB := b8_bytes h8
  revert he
  unfold cgetZ
  split
  · intro he; cases he
  rename_i h0
  split
  · intro he; cases he
  rename_i hne
  split
  · intro he; cases he
  rename_i h1
  obtain ⟨q, rfl⟩ := Int.eq_ofNat_of_zero_le (show 0 ≤ p by omega)
  have hq : q < b.length := by omega
  rw [Int.toNat_natCast] at h1
  have hc := hB _ (nth_mem hq)
  split
  · rename_i hz
    intro _
    rw [Int.toNat_natCast] at hz
    refine ⟨?_, by omega, by show (q : Int) ≤ (q : Int) + 1; omega, by show (q : Int) + 1 ≤ _; omega, ?_⟩
    · show checkR k true true 0 [] = 0
      unfold checkR
      rw [if_neg (by omega), if_pos rfl, if_pos rfl, if_pos ⟨rfl, rfl⟩]
    · show [0] = (b.take ((q : Int) + 1).toNat).drop (q : Int).toNat
      rw [show ((q : Int) + 1).toNat = q + 1 by omega, Int.toNat_natCast, piece_one hq, hz]
  rename_i hnz
  rw [Int.toNat_natCast] at hnz
  have h1' : nth b q = 1 := by omega
  obtain ⟨u, nx, e, hg⟩ : ∃ u nx e, M.getR b ((q : Int) + 1) = (u, nx, e) := ⟨_, _, _, rfl⟩
  rw [hg]
  show (if e ≠ 0 then CG.bad e else cgetU k b u nx).err = 0 → _ ∧ _ ∧ _ ∧ _ ∧ _
  by_cases hee : e = 0
  case neg =>
    intro he
    rw [if_pos hee] at he
    exact absurd he hee
  subst hee
  obtain ⟨-, g2, g3, -, g5, g6, g7⟩ := M.getR_ok hB hg
  rw [if_neg (by simp)]
  obtain ⟨U, rfl⟩ := Int.eq_ofNat_of_zero_le g5
  obtain ⟨n, rfl⟩ := Int.eq_ofNat_of_zero_le (show 0 ≤ nx by omega)
  rw [Int.toNat_natCast, Int.toNat_natCast, show ((q : Int) + 1).toNat = q + 1 by omega] at g7
  have hone : [1] ++ M.putL U = (b.take n).drop q := by rw [g7, ← h1', ← piece_one hq]; exact piece_join (by omega) (by omega)
  show (cgetU k b U n).err = 0 → checkR k true (cgetU k b U n).n (cgetU k b U n).i ((cgetU k b U n).b.getD []) = 0 ∧ _ ∧ (q : Int) ≤ (cgetU k b U n).next ∧ (cgetU k b U n).next ≤ b.length ∧ cputZ k (cgetU k b U n).n (cgetU k b U n).i ((cgetU k b U n).b.getD []) = (b.take (cgetU k b U n).next.toNat).drop q
  unfold cgetU
  split
  · rename_i h6
    split
    · rename_i hh
      intro _
      refine ⟨?_, by omega, by show (q : Int) ≤ (n : Int); omega, by show (n : Int) ≤ _; omega, ?_⟩
      · show checkR k true false (M.unfoldI U) [] = 0
        unfold checkR
        rw [if_neg (by omega), if_neg (by simp), if_pos h6, if_pos rfl, if_pos hh]
      · show cputZ k false (M.unfoldI U) [] = (b.take (n : Int).toNat).drop q
        have hf : M.foldI (M.unfoldI U) = U := by unfold M.unfoldI M.foldI; split <;> split <;> omega
        unfold cputZ
        rw [if_neg (by simp), if_pos h6, hf, Int.toNat_natCast, Int.toNat_natCast]
        exact hone
    · intro he; cases he
  rename_i h6
  split
  · intro he; cases he
  rename_i h200
  split
  · intro he; cases he
  rename_i hfit
  rw [Int.toNat_natCast, Int.toNat_natCast]
  split
  · rename_i ht; intro he; exact absurd he ht
  rename_i ht
  intro _
  have hSl : ((b.drop n).take U).length = U := by rw [List.length_take, List.length_drop]; omega
  refine ⟨?_, by omega, by show (q : Int) ≤ (n : Int) + U; omega, by show (n : Int) + U ≤ _; omega, ?_⟩
  · show checkR k true false 0 ((b.drop n).take U) = 0
    unfold checkR
    rw [if_neg (by omega), if_neg (by simp), if_neg h6, if_pos rfl]
    omega
  · show cputZ k false 0 ((b.drop n).take U) = (b.take ((n : Int) + U).toNat).drop q
    unfold cputZ
    rw [if_neg (by simp), if_neg h6, hSl, show ((n : Int) + U).toNat = n + U by omega, piece_take, ← piece_join (i := q) (j := n) (by omega) (by omega), ← hone]
    simp
theorem getC_only {k : Int} {nl : Bool} {b : List Int} {p : Int} (h8 : b8 b = true) (he : (getC k nl b p).err = 0) :
    checkR k nl (getC k nl b p).n (getC k nl b p).i ((getC k nl b p).b.getD []) = 0 ∧ 0 ≤ p ∧ p ≤ (getC k nl b p).next ∧ (getC k nl b p).next ≤ b.length ∧
      cputZ k (getC k nl b p).n (getC k nl b p).i ((getC k nl b p).b.getD []) = (b.take (getC k nl b p).next.toNat).drop p.toNat := by
  revert he
  unfold getC
  split
  · intro he; cases he
  rename_i h
  intro he
  obtain ⟨q1, q2⟩ := cget_only h8 he
  refine ⟨?_, q2⟩
  cases nl with
  | true => exact q1
  | false =>
    cases hn : (cgetZ k b p).n with
    | true => exact absurd ⟨he, hn, rfl⟩ h
    | false => rw [hn] at q1; exact q1
theorem firstE_all {f : Nat → Int} : ∀ {n i : Nat}, firstE f n i = 0 → ∀ j, i ≤ j → j < i + n → f j = 0
  | 0, _, _, j, h1, h2 => by omega
  | n + 1, i, he, j, h1, h2 => by
    unfold firstE at he
    split at he
    · rename_i h3
      rcases Nat.eq_or_lt_of_le h1 with rfl | h4
      · exact h3
      · exact firstE_all he j (by omega) (by omega)
    · rename_i h3; exact absurd he h3
theorem row_only {cols : List Co} {K : Int} {b : List Int} {p : Int} (h8 : b8 b = true) (h : rowGE cols K b p = 0) :
    rowE [] cols K (rowG cols b p cols.length) = 0 ∧ 0 ≤ p ∧ p ≤ posG cols b p cols.length ∧ posG cols b p cols.length ≤ b.length ∧ catZ (rowZ [] cols (rowG cols b p cols.length)) cols.length = (b.take (posG cols b p cols.length).toNat).drop p.toNat := by
  have hg : chkR cols K = 0 := by
    rcases chk_or cols K with q | q
    · exact q
    · unfold rowGE at h; rw [if_neg (by rw [q]; decide), q] at h; cases h
  obtain ⟨p1, p2, p3, p4, p5⟩ := chk_pos hg
  have hE : ∀ i, i < cols.length → (gcE cols b p i).err = 0 := fun i hi => by
    unfold rowGE at h
    rw [if_pos hg] at h
    exact firstE_all h i (Nat.zero_le _) (by omega)
  obtain ⟨R, hR⟩ : ∃ R, R = rowG cols b p cols.length := ⟨_, rfl⟩
  have hRat : ∀ i, i < cols.length → nth R i = ceG (gcE cols b p i) := fun i hi => by
    have := rowG_at (cols := cols) (b := b) (p := p) hi
    rw [hR]; unfold nth; rw [List.getD_eq_getElem?_getD, this]; rfl
  have hRb : ∀ i, i < cols.length → (nth R i).b [] = (gcE cols b p i).b.getD [] := fun i hi => by rw [hRat i hi]; exact (ceG_ok (gcE_ok h8 i)).2
  have only := fun i (hi : i < cols.length) => getC_only (k := (nth cols i).k) (nl := (nth cols i).n) (b := b) (p := posG cols b p i) h8 (hE i hi)
  have hfi : ∀ i, i < cols.length → rowZ [] cols R i = (b.take (posG cols b p (i + 1)).toNat).drop (posG cols b p i).toNat := fun i hi => by
    have := (only i hi).2.2.2.2
    unfold rowZ cputC
    rw [hRb i hi, hRat i hi]
    exact this
  have key : ∀ i, i ≤ cols.length → (0 < i → 0 ≤ p) ∧ p ≤ posG cols b p i ∧ (0 < i → posG cols b p i ≤ b.length) ∧ (0 < i → catZ (rowZ [] cols R) i = (b.take (posG cols b p i).toNat).drop p.toNat) := by
    intro i
    induction i with
    | zero => intro _; exact ⟨fun h => by omega, by show p ≤ p; omega, fun h => by omega, fun h => by omega⟩
    | succ i ih =>
      intro hi
      obtain ⟨j1, j2, j3, j4⟩ := ih (by omega)
      obtain ⟨-, o1, o2, o3, -⟩ := only i (by omega)
      have e : posG cols b p (i + 1) = (getC (nth cols i).k (nth cols i).n b (posG cols b p i)).next := rfl
      rw [← e] at o2 o3
      rcases Nat.eq_zero_or_pos i with z | z
      · subst z
        have e0 : posG cols b p 0 = p := rfl
        rw [e0] at o1 o2
        refine ⟨fun _ => o1, by omega, fun _ => o3, fun _ => ?_⟩
        rw [catZ_succ, hfi 0 (by omega), e0]; rfl
      · refine ⟨fun _ => j1 z, by omega, fun _ => o3, fun _ => ?_⟩
        have := j1 z
        rw [catZ_succ, hfi i (by omega), j4 z]
        exact piece_join (by omega) (by omega)
  obtain ⟨k1, k2, k3, k4⟩ := key cols.length (Nat.le_refl _)
  rw [← hR]
  refine ⟨?_, k1 (by omega), k2, k3 (by omega), k4 (by omega)⟩
  unfold rowE
  rw [if_pos hg]
  unfold cellsN
  rw [if_pos (by rw [hR, rowG_len])]
  refine firstE_none fun j _ hj => ?_
  have hj : j < cols.length := by omega
  have := (only j hj).1
  unfold chkC
  rw [hRb j hj, hRat j hj]
  exact this

theorem sets_only {cols : List Co} {K : Int} {b : List Int} {p : Int} (h8 : b8 b = true) (h : setsGE cols K b p = 0) :
    setsE [] cols K (setsG cols b p (setsN b p).toNat) = 0 ∧ 0 ≤ p ∧ p ≤ posS cols b (setsP b p) (setsN b p).toNat ∧ posS cols b (setsP b p) (setsN b p).toNat ≤ b.length ∧
      setsZ [] cols (setsG cols b p (setsN b p).toNat) (setsN b p).toNat = (b.take (posS cols b (setsP b p) (setsN b p).toNat).toNat).drop p.toNat := by
  obtain ⟨hg, n1, n12, e0, hE⟩ := setsGE_ok h8 h
  obtain ⟨p1, p2, p3, p4, p5⟩ := chk_pos hg
  have hB := b8_bytes h8
  obtain ⟨n, hn⟩ := Int.eq_ofNat_of_zero_le (show 0 ≤ setsN b p by omega)
  have hh : M.getR b p = (setsN b p, setsP b p, 0) := by
    have : (M.getR b p).2.2 = 0 := e0
    unfold setsN setsP
    rw [← this]
  obtain ⟨g1, g2, g3, -, -, -, g7⟩ := M.getR_ok hB hh
  rw [hn, Int.toNat_natCast] at hE g7 ⊢
  rw [hn] at n1 n12
  obtain ⟨q, hq⟩ : ∃ q, q = setsP b p := ⟨_, rfl⟩
  rw [← hq] at g2 g3 g7 ⊢
  obtain ⟨R, hR⟩ : ∃ R, R = setsG cols b p n := ⟨_, rfl⟩
  have hRl : R.length = n := by rw [hR, setsG_len]
  have hRat : ∀ i, i < n → nth R i = ⟨sU cols b p i, ceG (sW cols b p i)⟩ := fun i hi => by
    rw [hR, setsG_eq, mkS_at (by simpa using hi)]
    congr 1
    have : nth (List.range n) i = i := by rw [nth_lt (by simpa using hi)]; simp
    rw [nth_map (by simpa using hi), this]
  have hRb : ∀ i, i < n → (ceG (sW cols b p i)).b [] = (sW cols b p i).b.getD [] := fun i hi => (ceG_ok (sW_ok h8 i)).2
  have hz := fun i (hi : i < n) => sE_zero (hE i hi)
  have hU := fun i (hi : i < n) => (last_ge (i := i) fun m hm => hE m (by omega)).1
  have only : ∀ i, i < n → 0 ≤ sU cols b p i ∧ sU cols b p i < cols.length ∧ posS cols b q i ≤ posS cols b q (i + 1) ∧ posS cols b q (i + 1) ≤ b.length ∧ 0 ≤ posS cols b q i ∧
      M.putL (sU cols b p i).toNat ++ cputC [] (nth cols (sU cols b p i).toNat) (ceG (sW cols b p i)) = (b.take (posS cols b q (i + 1)).toNat).drop (posS cols b q i).toNat ∧ chkC [] (nth cols (sU cols b p i).toNat) (ceG (sW cols b p i)) = 0 := by
    intro i hi
    obtain ⟨z1, z2, z3, z4⟩ := hz i hi
    have hui := hU i hi
    rw [← hq] at z1
    obtain ⟨u, nx, e, hu⟩ : ∃ u nx e, M.getR b (posS cols b q i) = (u, nx, e) := ⟨_, _, _, rfl⟩
    rw [hu] at z1
    simp only at z1
    subst z1
    have eU : sU cols b p i = u := by unfold sU; rw [← hq, hu]
    obtain ⟨a1, a2, a3, -, a5, a6, a7⟩ := M.getR_ok hB hu
    have eW : sW cols b p i = getC (nth cols u.toNat).k (nth cols u.toNat).n b nx := by unfold sW sgC; rw [← hq, hu]
    have eN : posS cols b q (i + 1) = (sW cols b p i).next := by rw [posS_succ]; unfold sW; rw [← hq]
    rw [eW] at z4 eN
    have o := getC_only h8 z4
    rw [← eN] at o
    obtain ⟨o1, o2, o3, o4, o5⟩ := o
    rw [eU] at z3 ⊢
    refine ⟨a5, z3, by omega, o4, a1, ?_, ?_⟩
    · unfold cputC
      rw [hRb i hi, a7, eW]
      have : cputZ (nth cols u.toNat).k (ceG (getC (nth cols u.toNat).k (nth cols u.toNat).n b nx)).n (ceG (getC (nth cols u.toNat).k (nth cols u.toNat).n b nx)).i ((getC (nth cols u.toNat).k (nth cols u.toNat).n b nx).b.getD []) = (b.take (posS cols b q (i + 1)).toNat).drop nx.toNat := o5
      rw [this]
      exact piece_join (by omega) (by omega)
    · unfold chkC
      rw [hRb i hi, eW]
      exact o1
  have hfi : ∀ i, i < n → setZ [] cols R i = (b.take (posS cols b q (i + 1)).toNat).drop (posS cols b q i).toNat := fun i hi => by
    unfold setZ
    rw [hRat i hi]
    exact (only i hi).2.2.2.2.2.1
  have e00 : posS cols b q 0 = q := rfl
  have key : ∀ i, i ≤ n → q ≤ posS cols b q i ∧ posS cols b q i ≤ b.length ∧ M.putL R.length ++ catZ (setZ [] cols R) i = (b.take (posS cols b q i).toNat).drop p.toNat := by
    intro i
    induction i with
    | zero =>
      intro _
      rw [e00]
      refine ⟨by omega, g3, ?_⟩
      rw [hRl, g7]
      show _ ++ [] = _
      rw [List.append_nil]
    | succ i ih =>
      intro hi
      obtain ⟨j1, j2, j3⟩ := ih (by omega)
      obtain ⟨-, -, o1, o2, o3, -⟩ := only i (by omega)
      refine ⟨by omega, o2, ?_⟩
      rw [catZ_succ, hfi i (by omega), ← List.append_assoc, j3]
      exact piece_join (by omega) (by omega)
  obtain ⟨k1, k2, k3⟩ := key n (Nat.le_refl _)
  rw [← hR]
  refine ⟨?_, g1, by omega, k2, k3⟩
  unfold setsE
  rw [if_pos hg, hRl, if_neg (by omega)]
  refine firstE_none fun j _ hj => ?_
  have hj : j < n := by omega
  obtain ⟨c0, c1, -, -, -, -, c7⟩ := only j hj
  have hl := (hz j hj).2.1
  have hui := hU j hj
  unfold setE
  rw [hRat j hj]
  have hm : ¬ misP cols K R j := by
    unfold misP
    rw [hRat j hj]
    show ¬ (sU cols b p j < K ∨ (cols.length : Int) ≤ sU cols b p j ∨ (0 < j ∧ sU cols b p j ≤ (nth R (j - 1)).c))
    rcases Nat.eq_zero_or_pos j with z | z
    · subst z; omega
    · obtain ⟨m, rfl⟩ : ∃ m, j = m + 1 := ⟨j - 1, by omega⟩
      have h1 := (hz m (by omega)).2.1
      have h2 := hU m (by omega)
      rw [Nat.add_sub_cancel, hRat m (by omega)]
      rw [lastS_succ] at hl
      have : (M.getR b (posS cols b (setsP b p) m)).1 = sU cols b p m := rfl
      rw [this] at hl
      show ¬ (_ ∨ _ ∨ (_ ∧ sU cols b p (m + 1) ≤ sU cols b p m))
      omega
  rw [if_neg hm]
  exact c7
/-- What is asked of a row looks at its cells' contents alone. -/
theorem row_same {O O' : List AO} {cols : List Co} {K : Int} {X W : List Ce} (h : X.map (Ce.t O) = W.map (Ce.t O')) : rowE O cols K X = rowE O' cols K W ∧ ∀ n, n ≤ X.length → catZ (rowZ O cols X) n = catZ (rowZ O' cols W) n := by
  have hl : X.length = W.length := by have := congrArg List.length h; simpa using this
  have ht : ∀ i, i < X.length → (nth X i).n = (nth W i).n ∧ (nth X i).i = (nth W i).i ∧ (nth X i).b O = (nth W i).b O' := fun i hi => by
    have this : nth (X.map (Ce.t O)) i = nth (W.map (Ce.t O')) i := congrArg (fun l => nth l i) h
    rw [nth_map hi, nth_map (by omega)] at this
    unfold Ce.t at this
    simpa using this
  refine ⟨?_, fun n hn => catZ_congr fun i hi => ?_⟩
  · unfold rowE cellsN
    rw [hl]
    split
    · split
      · exact firstE_congr fun j _ hj => by
          obtain ⟨h1, h2, h3⟩ := ht j (by omega)
          unfold chkC; rw [h1, h2, h3]
      · rfl
    · rfl
  · obtain ⟨h1, h2, h3⟩ := ht i (by omega)
    unfold rowZ cputC; rw [h1, h2, h3]
theorem sets_same {O O' : List AO} {cols : List Co} {K : Int} {X W : List Se} (h : X.map (Se.t O) = W.map (Se.t O')) : setsE O cols K X = setsE O' cols K W ∧ ∀ n, n ≤ X.length → setsZ O cols X n = setsZ O' cols W n := by
  have hl : X.length = W.length := by have := congrArg List.length h; simpa using this
  have ht : ∀ i, i < X.length → (nth X i).c = (nth W i).c ∧ (nth X i).x.n = (nth W i).x.n ∧ (nth X i).x.i = (nth W i).x.i ∧ (nth X i).x.b O = (nth W i).x.b O' := fun i hi => by
    have this : nth (X.map (Se.t O)) i = nth (W.map (Se.t O')) i := congrArg (fun l => nth l i) h
    rw [nth_map hi, nth_map (by omega)] at this
    unfold Se.t Ce.t at this
    simpa using this
  refine ⟨?_, fun n hn => ?_⟩
  · unfold setsE
    rw [hl, firstE_congr (g := setE O' cols K W)]
    intro j _ hj
    obtain ⟨h0, h1, h2, h3⟩ := ht j (by omega)
    have hm : misP cols K X j ↔ misP cols K W j := by
      unfold misP
      rw [h0]
      rcases Nat.eq_zero_or_pos j with z | z
      · simp [z]
      · rw [(ht (j - 1) (by omega)).1]
    unfold setE chkC
    rw [h0, h1, h2, h3]
    simp only [hm]
  · unfold setsZ
    rw [hl, catZ_congr fun i hi => ?_]
    obtain ⟨h0, h1, h2, h3⟩ := ht i (by omega)
    unfold setZ cputC
    rw [h0, h1, h2, h3]

end Go.Proofs.YtnbgmclbbkfhhaaDoor.B
set_option maxRecDepth 20000
set_option maxHeartbeats 1000000
namespace Go.Proofs.YtnbgmclbbkfhhaaDoor.B
open Go Go.Ab
noncomputable def k_SchemaOnly : Ab.Spec := con3 some (ofInts .u8) (ofInt .i64) fun s b p objs => match objs with
  | [] => match schD [] s with | some _ => bnd b.length 140737488352000 (if b8 b = true ∧ i64B p = true then some (.bool true, none) else none) | none => none
  | _ => none
noncomputable def T_SchemaOnly : CallF := withF T_SchemaBack 8 k_SchemaOnly
theorem T_SchemaOnly_ok : CallOk Tryd.prog T_SchemaOnly := con_of (A := annOf [] [] [] false [40, 42]) fit T_SchemaBack_ok (fn := Tryd.f8) (by kernel_rfl) (by kernel_rfl) (by
  intro args objs r h0
  have c_aliveA : ∀ a o, T_SchemaBack 9 a o = k_aliveA a o := fun _ _ => rfl
  have c_CopyR : ∀ a o, T_SchemaBack 48 a o = k_CopyR a o := fun _ _ => rfl
  have c_GetRowK : ∀ a o, T_SchemaBack 40 a o = k_GetRowK a o := fun _ _ => rfl
  have c_PutRow : ∀ a o, T_SchemaBack 35 a o = k_PutRow a o := fun _ _ => rfl
  have c_Piece : ∀ a o, T_SchemaBack 50 a o = k_Piece a o := fun _ _ => rfl
  have c_SameR : ∀ a o, T_SchemaBack 49 a o = k_SameR a o := fun _ _ => rfl
  have c_GetSetsK : ∀ a o, T_SchemaBack 42 a o = k_GetSetsK a o := fun _ _ => rfl
  have c_PutSets : ∀ a o, T_SchemaBack 37 a o = k_PutSets a o := fun _ _ => rfl
  obtain ⟨s, y, _, _, b, p, rfl, hs, hy, hp, hR⟩ := con3_inv h0
  cases hs
  obtain rfl := ofInt_inv hp
  split at hR
  case h_2 => cases hR
  split at hR
  case h_2 => cases hR
  rename_i pr hsc
  obtain ⟨cols, K⟩ := pr
  obtain ⟨hbl, hR⟩ := bnd_inv hR
  split at hR
  case isFalse => cases hR
  rename_i h8
  obtain ⟨h8, hpb⟩ := h8
  cases hR
  obtain ⟨pb0, pb1⟩ := i64B_iff.1 hpb
  obtain ⟨v, rfl, hc, hl, hsh⟩ := schD_inv hsc
  have vd := (colsV hc).dem
  obtain ⟨yd, yn, yi, -⟩ := bs hy
  have S1 := fun O => schD_old hsc (old_nil O)
  have e1 : ofInts .u8 (.lst .frozen (ints .u8 b) b.length) = some b := ofInts_lst rfl
  have f1 : ∀ (O : List AO) (x : List Int), ofIntsR .u8 O (.lst .frozen (ints .u8 x) x.length) = some x := fun O x => ofIntsR_of (ofInts_lst rfl)
  have fy : ∀ O : List AO, ofIntsR .u8 O y = some b := fun O => ofIntsR_of hy
  obtain ⟨O1, hO1⟩ : ∃ O1, O1 = [AO.cells [v, .int .i64 K] 0] := ⟨_, rfl⟩
  have hO1l : O1.length = 1 := by rw [hO1]; rfl
  have g1 : Ab.getObj O1 0 0 = some [v, .int .i64 K] := by rw [hO1]; rfl
  have kc : ∀ O, k_CopyR [y] O = some (.lst (.fresh 1 true) (ints .u8 b) b.length, none) := fun O => by simp (disch := omega) [k_CopyR, fy]
  -- the row
  obtain ⟨r, k1, k1p⟩ := s_GetRowK (objs := O1) (p := p) (S1 O1) e1 h8 (by omega)
  obtain ⟨xv, O2, rfl, hold2, xd, xnt, xbad, xgood⟩ := k1p _ _ _ _ (S1 O1) e1 rfl
  have g2 : Ab.getObj O2 0 0 = some [v, .int .i64 K] := by rw [hold2.2 0 0 (by omega)]; exact g1
  have hO2l : 1 ≤ O2.length := by have := hold2.1; omega
  -- the sets
  obtain ⟨r, k2, k2p⟩ := s_GetSetsK (objs := O2) (p := p) (S1 O2) e1 h8 (by omega)
  obtain ⟨yv, O3, rfl, hold3, yvd, yvn, ybad, ygood⟩ := k2p _ _ _ _ (S1 O2) e1 rfl
  have g3 : Ab.getObj O3 0 0 = some [v, .int .i64 K] := by rw [hold3.2 0 0 (by omega)]; exact g2
  have lnil : lenV Tryd.prog 25 .nils = some (.int .i64 0) := by simp
  have lnil2 : lenV Tryd.prog 26 .nils = some (.int .i64 0) := by simp
  have pp : p < 9223372036854775807 → ∀ n : Int, ∀ O : List AO, k_Piece [y, .int .i64 p, .int .i64 n] O = some (.lst (.fresh 1 false) (ints .u8 (pieceZ b p n)) (pieceZ b p n).length, none) := fun q n O => by simp (disch := omega) [k_Piece, hy, q]
  have plen : ∀ n, (pieceZ b p n).length ≤ b.length := fun n => by rw [pieceZ_len]; omega
  have ks : ∀ (n : Int) (O : List AO), k_SameR [.lst .frozen (ints .u8 (pieceZ b p n)) (pieceZ b p n).length, .lst .frozen (ints .u8 (pieceZ b p n)) (pieceZ b p n).length] O = some (.bool true, none) := fun n O => by
    have := plen n
    simp (disch := omega) [k_SameR, f1]
  have pE : rowGE cols K b p = 0 → p ≤ posG cols b p cols.length ∧ posG cols b p cols.length ≤ b.length ∧ k_PutRow [.agg [v, .int .i64 K], xv] O2 = some (.tup [.lst (.fresh 1 true) (ints .u8 (pieceZ b p (posG cols b p cols.length))) (pieceZ b p (posG cols b p cols.length)).length, .int .i64 0], none) := fun hE => by
    obtain ⟨o1, o2, o3, o4, o5⟩ := row_only h8 hE
    obtain ⟨X, x1, x2, -, -⟩ := (xgood hE).rows
    rw [rowG_t h8 O1 []] at x2
    obtain ⟨m1, m2⟩ := row_same (cols := cols) (K := K) x2
    have hXl : X.length = cols.length := by have := congrArg List.length x2; simpa [rowG_len] using this
    have hz : catZ (rowZ O2 cols X) X.length = pieceZ b p (posG cols b p cols.length) := by rw [m2 _ (Nat.le_refl _), hXl, o5]; rfl
    refine ⟨o3, o4, ?_⟩
    have : k_PutRow [.agg [v, .int .i64 K], xv] O2 = some (cputV (rowE O2 cols K X) (.fresh 1 true) (catZ (rowZ O2 cols X) X.length), none) := by simp [k_PutRow, S1 O2, x1]
    rw [this, m1, o1, hz]; rfl
  have pF : setsGE cols K b p = 0 → p ≤ posS cols b (setsP b p) (setsN b p).toNat ∧ posS cols b (setsP b p) (setsN b p).toNat ≤ b.length ∧ k_PutSets [.agg [v, .int .i64 K], yv] O3 = some (.tup [.lst (.fresh 1 true) (ints .u8 (pieceZ b p (posS cols b (setsP b p) (setsN b p).toNat))) (pieceZ b p (posS cols b (setsP b p) (setsN b p).toNat)).length, .int .i64 0], none) := fun hF => by
    obtain ⟨o1, o2, o3, o4, o5⟩ := sets_only h8 hF
    obtain ⟨-, -, n12, -⟩ := setsGE_ok h8 hF
    obtain ⟨X, x1, x2, -, -⟩ := (ygood hF).rows
    rw [setsG_t h8 O2 []] at x2
    obtain ⟨m1, m2⟩ := sets_same (cols := cols) (K := K) x2
    have hXl : X.length = (setsN b p).toNat := by have := congrArg List.length x2; simpa [setsG_len] using this
    have hz : setsZ O3 cols X X.length = pieceZ b p (posS cols b (setsP b p) (setsN b p).toNat) := by rw [m2 _ (Nat.le_refl _), hXl, o5]; rfl
    refine ⟨o3, o4, ?_⟩
    have : k_PutSets [.agg [v, .int .i64 K], yv] O3 = some (cputV (setsE O3 cols K X) (.fresh 1 true) (setsZ O3 cols X X.length), none) := by simp (disch := omega) [k_PutSets, S1 O3, x1]
    rw [this, m1, o1, hz]; rfl
  obtain ⟨E, hE⟩ : ∃ E, E = rowGE cols K b p := ⟨_, rfl⟩
  obtain ⟨F, hF⟩ : ∃ F, F = setsGE cols K b p := ⟨_, rfl⟩
  obtain ⟨PN, hPN⟩ : ∃ n, n = posG cols b p cols.length := ⟨_, rfl⟩
  obtain ⟨QN, hQN⟩ : ∃ n, n = posS cols b (setsP b p) (setsN b p).toNat := ⟨_, rfl⟩
  rw [← hE] at k1 xbad pE
  rw [← hF] at k2 ybad pF
  rw [← hPN] at k1 pE
  rw [← hQN] at k2 pF
  refine .go _ rfl rfl ?_
  simp -implicitDefEqProofs [vd]
  rw [← hO1]
  by_cases he : E = 0
  · obtain ⟨o1, o2, o3⟩ := pE he
    have pp' := pp (by omega)
    rw [if_pos he, he] at k1
    have h1 : ¬ (b.length : Int) < PN := by omega
    by_cases hf : F = 0
    · obtain ⟨q1, q2, q3⟩ := pF hf
      rw [if_pos hf, hf] at k2
      have h2 : QN ≤ (b.length : Int) := q2
      simp -implicitDefEqProofs (maxSteps := 1000000) (disch := omega) [vd, yd, yn, c_aliveA, aliveA, g1, c_CopyR, kc, c_GetRowK, k1, xd, xnt, g2, c_PutRow, o3, h1, c_Piece, pp', c_SameR, ks, c_GetSetsK, k2, yvd, yvn, g3, c_PutSets, q3, h2]
    · rw [if_neg hf] at k2
      have hb := ybad hf
      subst hb
      have hf2 : (F != 0) = true := by simpa using hf
      simp -implicitDefEqProofs (maxSteps := 1000000) (disch := omega) [vd, yd, yn, c_aliveA, aliveA, g1, c_CopyR, kc, c_GetRowK, k1, xd, xnt, g2, c_PutRow, o3, h1, c_Piece, pp', c_SameR, ks, c_GetSetsK, k2, hf, hf2, lnil2]
  · rw [if_neg he] at k1
    have hb := xbad he
    subst hb
    have he2 : (E == 0) = false := by simpa using he
    by_cases hf : F = 0
    · obtain ⟨q1, q2, q3⟩ := pF hf
      have pp' := pp (by omega)
      rw [if_pos hf, hf] at k2
      have h2 : QN ≤ (b.length : Int) := q2
      simp -implicitDefEqProofs (maxSteps := 1000000) (disch := omega) [vd, yd, yn, c_aliveA, aliveA, g1, c_CopyR, kc, c_GetRowK, k1, he, he2, lnil, g2, c_Piece, pp', c_SameR, ks, c_GetSetsK, k2, yvd, yvn, g3, c_PutSets, q3, h2]
    · rw [if_neg hf] at k2
      have hb := ybad hf
      subst hb
      have hf2 : (F != 0) = true := by simpa using hf
      simp -implicitDefEqProofs (maxSteps := 1000000) (disch := omega) [vd, yd, yn, c_aliveA, aliveA, g1, c_CopyR, kc, c_GetRowK, k1, he, he2, lnil, g2, c_GetSetsK, k2, hf, hf2, lnil2])

theorem walk_SchemaOnly {D M n : Nat} {vs : List V} {args : Array Value} {W : World} (hS : ShpAll Tryd.prog (D + 64) M n [24, 59, 3] vs) (hA : AR (top W) W vs args.toList) : Calls Tryd.prog 8 args W fun e W' => e = .returned (.bool true) ∧ Go.RowKit.Below W.heap.size W W' := by
  match vs, hS with
  | [v0, v1, v2], ⟨s0, s1, s2, _⟩ =>
    obtain ⟨cols, K, c1, c2, -⟩ := in_schema s0
    obtain ⟨b, d1, b1, n1, -⟩ := in_bytes s1
    obtain ⟨p, rfl, w2⟩ := in_int u3 (by kernel_rfl) s2
    refine whole fit T_SchemaOnly_ok (fn := Tryd.f8) (by kernel_rfl) (by kernel_rfl) ?_ hA
    show k_SchemaOnly [v0, v1, .int .i64 p] [] = _
    simp (disch := omega) [k_SchemaOnly, c1, d1, b1, i64B_iff.2 (wf_i64 w2)]

end Go.Proofs.YtnbgmclbbkfhhaaDoor.B
