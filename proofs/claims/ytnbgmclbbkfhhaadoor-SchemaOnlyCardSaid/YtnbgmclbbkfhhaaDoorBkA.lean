import Derived.Test.YtnbgmclbbkfhhaaDoorGeC
set_option linter.unusedSimpArgs false
set_option linter.unusedVariables false
set_option linter.unusedSectionVars false
set_option maxRecDepth 20000
set_option maxHeartbeats 1000000
namespace Go.Proofs.YtnbgmclbbkfhhaaDoor.B
open Go Go.Ab
/-! what was put is got back -/
theorem nth_mid (a c : List Int) (x : Int) : nth (a ++ x :: c) a.length = x := by rw [nth_app_r (Nat.le_refl _), Nat.sub_self]; rfl
theorem unf_fold (v : Int) : M.unfoldI (M.foldI v) = v := by
  unfold M.unfoldI M.foldI; split <;> split <;> omega
theorem chk_true {k i : Int} {nl : Bool} {l : List Int} (h : checkR k nl true i l = 0) : nl = true ∧ i = 0 ∧ l = [] := by
  unfold checkR at h
  split at h
  · cases h
  rw [if_pos rfl] at h
  split at h
  · split at h
    · rename_i h1 h2; exact ⟨h1, h2⟩
    · cases h
  · cases h
theorem chk_num {k i : Int} {nl : Bool} {l : List Int} (h : checkR k nl false i l = 0) (h6 : k ≤ 6) : l = [] ∧ holdsR k i = true := by
  obtain ⟨k1, k8⟩ := checkR_kind h
  unfold checkR at h
  rw [if_neg (by omega), if_neg (by simp), if_pos h6] at h
  split at h
  · split at h
    · exact ⟨by assumption, by assumption⟩
    · cases h
  · cases h
theorem chk_text {k i : Int} {nl : Bool} {l : List Int} (h : checkR k nl false i l = 0) (h6 : ¬ k ≤ 6) : i = 0 ∧ textR k l = 0 := by
  obtain ⟨k1, k8⟩ := checkR_kind h
  unfold checkR at h
  rw [if_neg (by omega), if_neg (by simp), if_neg h6] at h
  split at h
  · exact ⟨by assumption, h⟩
  · cases h
theorem cget_put {k i : Int} {nl n : Bool} {l : List Int} (hc : checkR k nl n i l = 0) (hi : i64B i = true) (a c : List Int) :
    (cgetZ k (a ++ cputZ k n i l ++ c) (a.length : Int)).n = n ∧ (cgetZ k (a ++ cputZ k n i l ++ c) (a.length : Int)).i = i ∧ (cgetZ k (a ++ cputZ k n i l ++ c) (a.length : Int)).b.getD [] = l ∧
      (cgetZ k (a ++ cputZ k n i l ++ c) (a.length : Int)).next = (a.length : Int) + (cputZ k n i l).length ∧ (cgetZ k (a ++ cputZ k n i l ++ c) (a.length : Int)).err = 0 := by
  obtain ⟨k1, k8⟩ := checkR_kind hc
  cases n with
  | true =>
    obtain ⟨-, rfl, rfl⟩ := chk_true hc
    have e : cputZ k true 0 [] = [0] := rfl
    rw [e]
    have hb : a ++ [0] ++ c = a ++ 0 :: c := by simp
    have hl : (a ++ [0] ++ c).length = a.length + 1 + c.length := by simp; omega
    have hg : cgetZ k (a ++ [0] ++ c) (a.length : Int) = ⟨true, 0, none, (a.length : Int) + 1, 0, none⟩ := by
      unfold cgetZ
      rw [if_neg (by omega), if_neg (by omega), Int.toNat_natCast, hb, nth_mid, if_neg (by decide), if_pos rfl]
    rw [hg]
    exact ⟨rfl, rfl, rfl, rfl, rfl⟩
  | false =>
    have key : ∀ (u : Nat) (c' : List Int), u < 18446744073709551616 → cgetZ k (a ++ 1 :: (M.putL u ++ c')) (a.length : Int) = cgetU k (a ++ 1 :: (M.putL u ++ c')) u ((a.length : Int) + 1 + (M.putL u).length) := by
      intro u c' hu
      have hl : (a ++ 1 :: (M.putL u ++ c')).length = a.length + 1 + (M.putL u).length + c'.length := by simp; omega
      have hb : a ++ 1 :: (M.putL u ++ c') = (a ++ [1]) ++ M.putL u ++ c' := by simp
      have hg := M.getR_put (a ++ [1]) c' hu
      rw [← hb] at hg
      have ha : ((a ++ [1]).length : Int) = (a.length : Int) + 1 := by simp
      rw [ha] at hg
      unfold cgetZ
      rw [if_neg (by omega), if_neg (by omega), Int.toNat_natCast, nth_mid, if_neg (by decide), if_neg (by decide), hg]
      simp
    by_cases h6 : k ≤ 6
    · obtain ⟨rfl, hh⟩ := chk_num hc h6
      have e : cputZ k false i [] = 1 :: M.putL (M.foldI i).toNat := by unfold cputZ; rw [if_neg (by simp), if_pos h6]
      obtain ⟨f0, f1⟩ := foldI_nn hi
      have hb : a ++ cputZ k false i [] ++ c = a ++ 1 :: (M.putL (M.foldI i).toNat ++ c) := by rw [e]; simp
      have hu : (((M.foldI i).toNat : Nat) : Int) = M.foldI i := by omega
      rw [hb, key _ _ (by omega), hu]
      unfold cgetU
      rw [if_pos h6, unf_fold, if_pos hh, e]
      refine ⟨rfl, rfl, rfl, ?_, rfl⟩
      show (a.length : Int) + 1 + _ = _
      rw [List.length_cons]; omega
    · obtain ⟨rfl, ht⟩ := chk_text hc h6
      have h200 := chk_len hc
      have e : cputZ k false 0 l = 1 :: (M.putL l.length ++ l) := by unfold cputZ; rw [if_neg (by simp), if_neg h6]
      have hb : a ++ cputZ k false 0 l ++ c = a ++ 1 :: (M.putL l.length ++ (l ++ c)) := by rw [e]; simp
      rw [hb, key _ _ (by omega)]
      obtain ⟨P, hP⟩ : ∃ P, P = M.putL l.length := ⟨_, rfl⟩
      rw [← hP] at e ⊢
      have hl : (a ++ 1 :: (P ++ (l ++ c))).length = a.length + 1 + P.length + (l.length + c.length) := by simp; omega
      have hd : (a ++ 1 :: (P ++ (l ++ c))).drop ((a.length : Int) + 1 + P.length).toNat = l ++ c := by
        have h1 : ((a.length : Int) + 1 + P.length).toNat = (a ++ 1 :: P).length := by simp; omega
        have h2 : a ++ 1 :: (P ++ (l ++ c)) = (a ++ 1 :: P) ++ (l ++ c) := by simp
        rw [h1, h2, List.drop_left]
      have htk : ((a ++ 1 :: (P ++ (l ++ c))).drop ((a.length : Int) + 1 + P.length).toNat).take ((l.length : Int)).toNat = l := by rw [hd, Int.toNat_natCast, List.take_left]
      unfold cgetU
      rw [if_neg h6, if_neg (by omega), if_neg (by rw [hl]; omega), htk, if_neg (by rw [ht]; simp)]
      refine ⟨rfl, rfl, rfl, ?_, rfl⟩
      show (a.length : Int) + 1 + P.length + l.length = _
      rw [e, List.length_cons, List.length_append]; omega
theorem getC_put {k i : Int} {nl n : Bool} {l : List Int} (hc : checkR k nl n i l = 0) (hi : i64B i = true) (a c : List Int) :
    (getC k nl (a ++ cputZ k n i l ++ c) (a.length : Int)).n = n ∧ (getC k nl (a ++ cputZ k n i l ++ c) (a.length : Int)).i = i ∧ (getC k nl (a ++ cputZ k n i l ++ c) (a.length : Int)).b.getD [] = l ∧
      (getC k nl (a ++ cputZ k n i l ++ c) (a.length : Int)).next = (a.length : Int) + (cputZ k n i l).length ∧ (getC k nl (a ++ cputZ k n i l ++ c) (a.length : Int)).err = 0 := by
  have h := cget_put hc hi a c
  have e : getC k nl (a ++ cputZ k n i l ++ c) (a.length : Int) = cgetZ k (a ++ cputZ k n i l ++ c) (a.length : Int) := by
    unfold getC
    rw [if_neg]
    rintro ⟨-, h2, h3⟩
    rw [h.1] at h2
    subst h2
    rw [(chk_true hc).1] at h3
    cases h3
  rw [e]; exact h
theorem catZ_split {f : Nat → List Int} {i : Nat} : ∀ {n : Nat}, i < n → ∃ r, catZ f n = catZ f i ++ f i ++ r
  | 0, h => absurd h (by omega)
  | n + 1, h => by
    rcases Nat.lt_or_ge i n with q | q
    · obtain ⟨r, hr⟩ := catZ_split (f := f) q
      exact ⟨r ++ f n, by rw [catZ_succ, hr]; simp⟩
    · obtain rfl : i = n := by omega
      exact ⟨[], by rw [catZ_succ]; simp⟩
theorem row_back {objs : List AO} {cols : List Co} {K : Int} {row : List Ce} (hE : rowE objs cols K row = 0) (hk : ∀ i, i < row.length → ceOk objs (nth row i) = true) (pre post : List Int) (O : List AO) (h8 : b8 (pre ++ catZ (rowZ objs cols row) row.length ++ post) = true) :
    rowGE cols K (pre ++ catZ (rowZ objs cols row) row.length ++ post) pre.length = 0 ∧ posG cols (pre ++ catZ (rowZ objs cols row) row.length ++ post) pre.length cols.length = (pre.length : Int) + (catZ (rowZ objs cols row) row.length).length ∧
      (rowG cols (pre ++ catZ (rowZ objs cols row) row.length ++ post) pre.length cols.length).map (Ce.t O) = row.map (Ce.t objs) := by
  obtain ⟨hg, hlen, hch⟩ := row_len hE
  obtain ⟨f, hf⟩ : ∃ f, f = rowZ objs cols row := ⟨_, rfl⟩
  rw [← hf] at h8 ⊢
  obtain ⟨b, hb⟩ : ∃ b, b = pre ++ catZ f row.length ++ post := ⟨_, rfl⟩
  rw [← hb] at h8 ⊢
  have one : ∀ i, i < row.length → posG cols b pre.length i = (pre.length : Int) + (catZ f i).length → (gcE cols b pre.length i).n = (nth row i).n ∧ (gcE cols b pre.length i).i = (nth row i).i ∧ (gcE cols b pre.length i).b.getD [] = (nth row i).b objs ∧ (gcE cols b pre.length i).next = (pre.length : Int) + (catZ f (i + 1)).length ∧ (gcE cols b pre.length i).err = 0 := by
    intro i hi hpos
    obtain ⟨r, hr⟩ := catZ_split (f := f) hi
    have hbe : b = (pre ++ catZ f i) ++ cputZ (nth cols i).k (nth row i).n (nth row i).i ((nth row i).b objs) ++ (r ++ post) := by
      rw [hb, hr]
      have : f i = cputZ (nth cols i).k (nth row i).n (nth row i).i ((nth row i).b objs) := by rw [hf]; rfl
      rw [this]; simp
    have := getC_put (nl := (nth cols i).n) (hch i hi) (ceOk_inv (hk i hi)).1 (pre ++ catZ f i) (r ++ post)
    rw [← hbe] at this
    have hp : ((pre ++ catZ f i).length : Int) = posG cols b pre.length i := by rw [hpos]; simp
    rw [hp] at this
    obtain ⟨q1, q2, q3, q4, q5⟩ := this
    refine ⟨q1, q2, q3, ?_, q5⟩
    show (getC _ _ _ _).next = _
    rw [q4, hpos, catZ_succ, List.length_append]
    have : f i = cputZ (nth cols i).k (nth row i).n (nth row i).i ((nth row i).b objs) := by rw [hf]; rfl
    rw [this]; omega
  have pos : ∀ i, i ≤ row.length → posG cols b pre.length i = (pre.length : Int) + (catZ f i).length := by
    intro i
    induction i with
    | zero => intro _; simp [posG, catZ]
    | succ i ih => intro hi; rw [posG_succ]; exact (one i (by omega) (ih (by omega))).2.2.2.1
  refine ⟨?_, by rw [← hlen]; exact pos _ (Nat.le_refl _), ?_⟩
  · unfold rowGE
    rw [if_pos hg]
    exact firstE_none fun j _ hj => (one j (by omega) (pos j (by omega))).2.2.2.2
  · refine ext_nth (by simp [rowG_len, hlen]) fun j hj => ?_
    rw [List.length_map, rowG_len] at hj
    rw [nth_map (by rw [rowG_len]; exact hj), nth_map (by omega)]
    have e : nth (rowG cols b pre.length cols.length) j = ceG (gcE cols b pre.length j) := by
      have := rowG_at (cols := cols) (b := b) (p := pre.length) hj
      unfold nth; rw [List.getD_eq_getElem?_getD, this]; rfl
    obtain ⟨q1, q2, q3, -, -⟩ := one j (by omega) (pos j (by omega))
    rw [e, ceG_t (gcE_ok h8 j), q1, q2, q3]; rfl

theorem getR_at {b : List Int} (a c : List Int) {u : Nat} {p : Int} (hb : b = a ++ M.putL u ++ c) (hp : p = a.length) (hu : u < 18446744073709551616) : M.getR b p = ((u : Int), p + (M.putL u).length, 0) := by
  rw [hb, hp]; exact M.getR_put a c hu
theorem sets_back {objs : List AO} {cols : List Co} {K : Int} {sets : List Se} (hE : setsE objs cols K sets = 0) (hk : ∀ i, i < sets.length → seOk objs (nth sets i) = true) (pre post : List Int) (O : List AO) (h8 : b8 (pre ++ setsZ objs cols sets sets.length ++ post) = true) :
    setsGE cols K (pre ++ setsZ objs cols sets sets.length ++ post) pre.length = 0 ∧ setsN (pre ++ setsZ objs cols sets sets.length ++ post) pre.length = sets.length ∧
      posS cols (pre ++ setsZ objs cols sets sets.length ++ post) (setsP (pre ++ setsZ objs cols sets sets.length ++ post) pre.length) sets.length = (pre.length : Int) + (setsZ objs cols sets sets.length).length ∧
      (setsG cols (pre ++ setsZ objs cols sets sets.length ++ post) pre.length sets.length).map (Se.t O) = sets.map (Se.t objs) := by
  obtain ⟨hg, hpos, h12, hch⟩ := sets_len hE
  have hmis : ∀ i, i < sets.length → ¬ misP cols K sets i := fun i hi => by
    have := (hch i hi).2.2.1
    unfold setE at this
    split at this
    · cases this
    · assumption
  obtain ⟨p1, p2, p3, p4, p5⟩ := chk_pos hg
  obtain ⟨f, hf⟩ : ∃ f, f = setZ objs cols sets := ⟨_, rfl⟩
  have hfi : ∀ i, f i = M.putL (nth sets i).c.toNat ++ cputZ (nth cols (nth sets i).c.toNat).k (nth sets i).x.n (nth sets i).x.i ((nth sets i).x.b objs) := fun i => by rw [hf]; rfl
  obtain ⟨Z, hZ⟩ : ∃ Z : Nat → List Int, Z = fun n => M.putL sets.length ++ catZ f n := ⟨_, rfl⟩
  have hZn : setsZ objs cols sets sets.length = Z sets.length := by rw [hZ, hf]; rfl
  have hZs : ∀ n, Z (n + 1) = Z n ++ f n := fun n => by rw [hZ]; simp only; rw [catZ_succ, List.append_assoc]
  rw [hZn] at h8 ⊢
  obtain ⟨b, hb⟩ : ∃ b, b = pre ++ Z sets.length ++ post := ⟨_, rfl⟩
  rw [← hb] at h8 ⊢
  have g0 : M.getR b pre.length = ((sets.length : Int), (pre.length : Int) + (M.putL sets.length).length, 0) := getR_at pre (catZ f sets.length ++ post) (by rw [hb, hZ]; simp) rfl (by omega)
  have hN : setsN b pre.length = sets.length := by unfold setsN; rw [g0]
  have hP : setsP b pre.length = (pre.length : Int) + (Z 0).length := by unfold setsP; rw [g0, hZ]; simp [catZ]
  obtain ⟨q, hq⟩ : ∃ q, q = setsP b pre.length := ⟨_, rfl⟩
  have one : ∀ i, i < sets.length → posS cols b q i = (pre.length : Int) + (Z i).length → M.getR b (posS cols b q i) = ((nth sets i).c, posS cols b q i + (M.putL (nth sets i).c.toNat).length, 0) ∧
      (sgC cols b (posS cols b q i)).n = (nth sets i).x.n ∧ (sgC cols b (posS cols b q i)).i = (nth sets i).x.i ∧ (sgC cols b (posS cols b q i)).b.getD [] = (nth sets i).x.b objs ∧ (sgC cols b (posS cols b q i)).next = (pre.length : Int) + (Z (i + 1)).length ∧ (sgC cols b (posS cols b q i)).err = 0 := by
    intro i hi hpos
    obtain ⟨c0, c1, -, c3⟩ := hch i hi
    obtain ⟨r, hr⟩ := catZ_split (f := f) hi
    have hbe : b = (pre ++ Z i) ++ M.putL (nth sets i).c.toNat ++ (cputZ (nth cols (nth sets i).c.toNat).k (nth sets i).x.n (nth sets i).x.i ((nth sets i).x.b objs) ++ (r ++ post)) := by
      rw [hb, hZ]; simp only; rw [hr, hfi]; simp
    have hcn : (((nth sets i).c.toNat : Nat) : Int) = (nth sets i).c := by omega
    have hg := getR_at (p := posS cols b q i) _ _ hbe (by rw [hpos]; simp) (by omega)
    rw [hcn] at hg
    have hbe2 : b = (pre ++ Z i ++ M.putL (nth sets i).c.toNat) ++ cputZ (nth cols (nth sets i).c.toNat).k (nth sets i).x.n (nth sets i).x.i ((nth sets i).x.b objs) ++ (r ++ post) := by rw [hbe]; simp
    have h := getC_put (nl := (nth cols (nth sets i).c.toNat).n) c3 (ceOk_inv (seOk_inv (hk i hi)).2).1 (pre ++ Z i ++ M.putL (nth sets i).c.toNat) (r ++ post)
    rw [← hbe2] at h
    have hp : ((pre ++ Z i ++ M.putL (nth sets i).c.toNat).length : Int) = posS cols b q i + (M.putL (nth sets i).c.toNat).length := by rw [hpos]; simp; omega
    rw [hp] at h
    have hC : sgC cols b (posS cols b q i) = getC (nth cols (nth sets i).c.toNat).k (nth cols (nth sets i).c.toNat).n b (posS cols b q i + (M.putL (nth sets i).c.toNat).length) := by unfold sgC; rw [hg]
    rw [hC]
    obtain ⟨q1, q2, q3, q4, q5⟩ := h
    refine ⟨hg, q1, q2, q3, ?_, q5⟩
    rw [q4, hpos, hZs, hfi, List.length_append, List.length_append]; omega
  have pos : ∀ i, i ≤ sets.length → posS cols b q i = (pre.length : Int) + (Z i).length := by
    intro i
    induction i with
    | zero => intro _; rw [hq]; exact hP
    | succ i ih => intro hi; rw [posS_succ]; exact (one i (by omega) (ih (by omega))).2.2.2.2.1
  have hU : ∀ i, i < sets.length → sU cols b pre.length i = (nth sets i).c := fun i hi => by unfold sU; rw [← hq, (one i hi (pos i (by omega))).1]
  refine ⟨?_, hN, by rw [← hq]; exact pos _ (Nat.le_refl _), ?_⟩
  · unfold setsGE
    rw [if_pos hg, hN, g0, if_neg (by simp), if_neg (by omega), Int.toNat_natCast]
    refine firstE_none fun j _ hj => ?_
    have hj : j < sets.length := by omega
    obtain ⟨o1, o2, o3, o4, o5, o6⟩ := one j hj (pos j (by omega))
    have hl : lastS cols b q (K - 1) j < (nth sets j).c := by
      have hm := hmis j hj
      unfold misP at hm
      cases j with
      | zero => show K - 1 < _; omega
      | succ j =>
        rw [lastS_succ, (one j (by omega) (pos j (by omega))).1]
        show (nth sets j).c < _
        rw [Nat.add_sub_cancel] at hm
        omega
    obtain ⟨c0, c1, -, -⟩ := hch j hj
    unfold sE sgE
    rw [← hq, o1]
    simp only
    rw [if_neg (by simp), if_neg (by omega), o6]
  · refine ext_nth (by simp [setsG_len]) fun j hj => ?_
    rw [List.length_map, setsG_len] at hj
    obtain ⟨o1, o2, o3, o4, o5, o6⟩ := one j hj (pos j (by omega))
    have e : nth (setsG cols b pre.length sets.length) j = ⟨sU cols b pre.length j, ceG (sW cols b pre.length j)⟩ := by
      rw [setsG_eq, mkS_at (by simpa using hj)]
      congr 1
      have : nth (List.range sets.length) j = j := by rw [nth_lt (by simpa using hj)]; simp
      rw [nth_map (by simpa using hj), this]
    rw [nth_map (by rw [setsG_len]; exact hj), nth_map hj, e, hU j hj]
    unfold Se.t
    simp only
    rw [ceG_t (sW_ok h8 j)]
    have hW : sW cols b pre.length j = sgC cols b (posS cols b q j) := by unfold sW; rw [← hq]
    rw [hW, o2, o3, o4]; rfl

end Go.Proofs.YtnbgmclbbkfhhaaDoor.B
set_option maxRecDepth 20000
set_option maxHeartbeats 1000000
namespace Go.Proofs.YtnbgmclbbkfhhaaDoor.B
open Go Go.Ab
theorem cput_b8 {k i : Int} {n : Bool} {l : List Int} (h : b8 l = true) : b8 (cputZ k n i l) = true := by
  rw [b8_iff] at h ⊢
  unfold cputZ
  have pb : ∀ u : Nat, ∀ x ∈ M.putL u, 0 ≤ x ∧ x < 256 := fun u => M.putL_bytes (u + 1) u (by omega)
  split
  · intro x hx; simp at hx; omega
  · split
    · intro x hx
      rcases List.mem_cons.1 hx with rfl | hx
      · omega
      · exact pb _ x hx
    · intro x hx
      rcases List.mem_cons.1 hx with rfl | hx
      · omega
      · rcases List.mem_append.1 hx with hx | hx
        · exact pb _ x hx
        · exact h x hx
theorem catZ_b8 {f : Nat → List Int} : ∀ {n : Nat}, (∀ i, i < n → b8 (f i) = true) → b8 (catZ f n) = true
  | 0, _ => rfl
  | n + 1, h => by
    rw [catZ_succ, b8_iff]
    intro x hx
    rcases List.mem_append.1 hx with hx | hx
    · exact b8_iff.1 (catZ_b8 fun i hi => h i (by omega)) x hx
    · exact b8_iff.1 (h n (by omega)) x hx
theorem b8_app {a b : List Int} (ha : b8 a = true) (hb : b8 b = true) : b8 (a ++ b) = true := b8_iff.2 fun x hx => (List.mem_append.1 hx).elim (b8_iff.1 ha x) (b8_iff.1 hb x)
theorem putL_b8 (u : Nat) : b8 (M.putL u) = true := b8_iff.2 (M.putL_bytes (u + 1) u (by omega))
theorem rowZ_b8 {objs : List AO} {cols : List Co} {row : List Ce} (hk : ∀ i, i < row.length → ceOk objs (nth row i) = true) : b8 (catZ (rowZ objs cols row) row.length) = true := catZ_b8 fun i hi => cput_b8 (ceOk_inv (hk i hi)).2.2.1
theorem setsZ_b8 {objs : List AO} {cols : List Co} {sets : List Se} (hk : ∀ i, i < sets.length → seOk objs (nth sets i) = true) : b8 (setsZ objs cols sets sets.length) = true := b8_app (putL_b8 _) (catZ_b8 fun i hi => b8_app (putL_b8 _) (cput_b8 (ceOk_inv (seOk_inv (hk i hi)).2).2.2.1))
theorem withR_miss {row : List Ce} {sets : List Se} {i : Nat} : ∀ {m : Nat}, m ≤ sets.length → (∀ j, j < m → (nth sets j).c.toNat ≠ i) → nth (withR row (sets.take m)) i = nth row i
  | 0, _, _ => rfl
  | m + 1, h, k => by rw [withR_take (by omega), nth_set_ne (k m (by omega))]; exact withR_miss (by omega) fun j hj => k j (by omega)
theorem withR_hit {row : List Ce} {sets : List Se} {i j : Nat} (hc : (nth sets j).c.toNat = i) (hi : i < row.length) : ∀ {m : Nat}, j < m → m ≤ sets.length → (∀ t, j < t → t < m → (nth sets t).c.toNat ≠ i) → nth (withR row (sets.take m)) i = (nth sets j).x
  | 0, h, _, _ => absurd h (by omega)
  | m + 1, h, h2, k => by
    rw [withR_take (by omega)]
    rcases Nat.lt_or_ge j m with q | q
    · rw [nth_set_ne (k m q (by omega))]; exact withR_hit hc hi q (by omega) fun t h1 h2 => k t h1 (by omega)
    · obtain rfl : j = m := by omega
      rw [hc, nth_set_eq (by rw [withR_len]; exact hi)]
theorem sets_asc {objs : List AO} {cols : List Co} {K : Int} {sets : List Se} (hE : setsE objs cols K sets = 0) : ∀ {t j : Nat}, j < t → t < sets.length → (nth sets j).c < (nth sets t).c := by
  obtain ⟨hg, hpos, h12, hch⟩ := sets_len hE
  intro t
  induction t with
  | zero => intro j h; omega
  | succ t ih =>
    intro j hj ht
    have hs : (nth sets t).c < (nth sets (t + 1)).c := by
      have := (hch (t + 1) ht).2.2.1
      unfold setE at this
      split at this
      · cases this
      · rename_i hm
        unfold misP at hm
        rw [Nat.add_sub_cancel] at hm
        omega
    rcases Nat.lt_or_ge j t with q | q
    · have := ih q (by omega); omega
    · obtain rfl : j = t := by omega
      exact hs
theorem nils_row {objs : List AO} {v : V} {row : List Ce} (h : rowR objs v = some row) (hp : 0 < row.length) : isNils v = false := by
  cases hn : isNils v with
  | false => rfl
  | true =>
    cases v <;> simp [isNils] at hn
    simp [rowR, recR] at h
    first | (subst h; simp at hp) | (have := h; simp [ofRecL] at this; subst this; simp at hp)

end Go.Proofs.YtnbgmclbbkfhhaaDoor.B
set_option maxRecDepth 20000
set_option maxHeartbeats 1000000
namespace Go.Proofs.YtnbgmclbbkfhhaaDoor.B
open Go Go.Ab
noncomputable def k_SchemaBack : Ab.Spec := con3 some some some fun s w u objs => match objs with
  | [] => match schD [] s, rowR [] w, setsR [] u with
    | some _, some row, some sets => bnd (row.length * 40) 140737488355328 (bnd (sets.length * 48) 140737488355328 (some (.bool true, none)))
    | _, _, _ => none
  | _ => none
noncomputable def T_SchemaBack : CallF := withF T_SchemaGets 7 k_SchemaBack
theorem T_SchemaBack_ok : CallOk Tryd.prog T_SchemaBack := con_of (A := annOf [] [] [] false [40, 42, 26]) fit T_SchemaGets_ok (fn := Tryd.f7) (by kernel_rfl) (by kernel_rfl) (by
  intro args objs r h0
  have c_aliveA : ∀ a o, T_SchemaGets 9 a o = k_aliveA a o := fun _ _ => rfl
  have c_PutRow : ∀ a o, T_SchemaGets 35 a o = k_PutRow a o := fun _ _ => rfl
  have c_PutSets : ∀ a o, T_SchemaGets 37 a o = k_PutSets a o := fun _ _ => rfl
  have c_rRow : ∀ a o, T_SchemaGets 17 a o = k_rRow a o := fun _ _ => rfl
  have c_rSets : ∀ a o, T_SchemaGets 21 a o = k_rSets a o := fun _ _ => rfl
  have c_CatR : ∀ a o, T_SchemaGets 46 a o = k_CatR a o := fun _ _ => rfl
  have c_GetRowK : ∀ a o, T_SchemaGets 40 a o = k_GetRowK a o := fun _ _ => rfl
  have c_GetSetsK : ∀ a o, T_SchemaGets 42 a o = k_GetSetsK a o := fun _ _ => rfl
  have c_AlikeRow : ∀ a o, T_SchemaGets 28 a o = k_AlikeRow a o := fun _ _ => rfl
  have c_AlikeSets : ∀ a o, T_SchemaGets 31 a o = k_AlikeSets a o := fun _ _ => rfl
  have c_ApplyK : ∀ a o, T_SchemaGets 26 a o = k_ApplyK a o := fun _ _ => rfl
  have c_Alike : ∀ a o, T_SchemaGets 47 a o = k_Alike a o := fun _ _ => rfl
  obtain ⟨s, w, u, _, _, _, rfl, hs, hw, hu, hR⟩ := con3_inv h0
  cases hs; cases hw; cases hu
  split at hR
  case h_2 => cases hR
  split at hR
  case h_2 => cases hR
  rename_i p row sets hsc hr hu
  obtain ⟨cols, K⟩ := p
  obtain ⟨l1, hR⟩ := bnd_inv hR
  obtain ⟨l2, hR⟩ := bnd_inv hR
  cases hR
  obtain ⟨v, rfl, hc, hl, hsh⟩ := schD_inv hsc
  have vd := (colsV hc).dem
  obtain ⟨hw1, wd, wn, wi, wk⟩ := rowF hr
  obtain ⟨hu1, ud, un, ui, uk⟩ := setsF hu
  have rk := (rowR_inv hr).2
  have sk := (setsR_inv hu).2
  have S1 := fun O => schD_old hsc (old_nil O)
  have R1 := fun O => rowR_old hr (old_nil O)
  have U1 := fun O => setsR_old hu (old_nil O)
  have M1 : ∀ O, row.map (Ce.t O) = row.map (Ce.t []) := fun O => List.map_congr_left fun x hx => Ce.t_old (rk x hx) (old_nil O)
  have M2 : ∀ O, sets.map (Se.t O) = sets.map (Se.t []) := fun O => List.map_congr_left fun x hx => by unfold Se.t; rw [Ce.t_old (seOk_inv (sk x hx)).2 (old_nil O)]
  obtain ⟨E, hE⟩ : ∃ E, E = rowE [] cols K row := ⟨_, rfl⟩
  obtain ⟨F, hF⟩ : ∃ F, F = setsE [] cols K sets := ⟨_, rfl⟩
  obtain ⟨A, hA⟩ : ∃ A, A = catZ (rowZ [] cols row) row.length := ⟨_, rfl⟩
  obtain ⟨B, hB⟩ : ∃ B, B = setsZ [] cols sets sets.length := ⟨_, rfl⟩
  have P2 : ∀ O, k_PutRow [.agg [v, .int .i64 K], w] O = some (cputV E (.fresh 1 true) A, none) := fun O => by simp [k_PutRow, S1 O, R1 O, rowE_old wk (old_nil O), rowZ_old wk (old_nil O) (Nat.le_refl _), ← hE, ← hA]
  have P4 : ∀ O, k_PutSets [.agg [v, .int .i64 K], u] O = some (cputV F (.fresh 1 true) B, none) := fun O => by simp (disch := omega) [k_PutSets, S1 O, U1 O, setsE_old uk (old_nil O), setsZ_old uk (old_nil O) (Nat.le_refl _), ← hF, ← hB]
  have Q1 : ∀ O, k_rRow [.agg [v, .int .i64 K], w] O = some (.int .i64 E, none) := fun O => by simp [k_rRow, S1 O, R1 O, rowE_old wk (old_nil O), ← hE]
  have Q2 : ∀ O, k_rSets [.agg [v, .int .i64 K], u] O = some (.int .i64 F, none) := fun O => by simp (disch := omega) [k_rSets, S1 O, U1 O, setsE_old uk (old_nil O), ← hF]
  obtain ⟨O1, hO1⟩ : ∃ O1, O1 = [AO.cells [v, .int .i64 K] 0] := ⟨_, rfl⟩
  have g1 : Ab.getObj O1 0 0 = some [v, .int .i64 K] := by rw [hO1]; rfl
  have hO1l : O1.length = 1 := by rw [hO1]; rfl
  refine .go _ rfl rfl ?_
  simp -implicitDefEqProofs [vd]
  rw [← hO1]
  by_cases he : E = 0
  case neg =>
    have he2 : (E != 0) = true := by simpa using he
    have he3 : (E == 0) = false := by simpa using he
    have P2' : ∀ O, k_PutRow [.agg [v, .int .i64 K], w] O = some (.tup [.nils, .int .i64 E], none) := fun O => by rw [P2]; unfold cputV; rw [if_neg he]
    by_cases hf : F = 0
    · have P4' : ∀ O, k_PutSets [.agg [v, .int .i64 K], u] O = some (.tup [.lst (.fresh 1 true) (ints .u8 B) B.length, .int .i64 0], none) := fun O => by rw [P4, hf]; rfl
      rw [hf] at Q2
      simp -implicitDefEqProofs (maxSteps := 1000000) (disch := omega) [vd, wd, ud, g1, c_aliveA, aliveA, c_PutRow, P2', c_PutSets, P4', c_rRow, Q1, c_rSets, Q2, he, he2, he3]
    · have hf2 : (F != 0) = true := by simpa using hf
      have hf3 : (F == 0) = false := by simpa using hf
      have P4' : ∀ O, k_PutSets [.agg [v, .int .i64 K], u] O = some (.tup [.nils, .int .i64 F], none) := fun O => by rw [P4]; unfold cputV; rw [if_neg hf]
      simp -implicitDefEqProofs (maxSteps := 1000000) (disch := omega) [vd, wd, ud, g1, c_aliveA, aliveA, c_PutRow, P2', c_PutSets, P4', c_rRow, Q1, c_rSets, Q2, he, he2, he3, hf, hf2, hf3]
  have P2' : ∀ O, k_PutRow [.agg [v, .int .i64 K], w] O = some (.tup [.lst (.fresh 1 true) (ints .u8 A) A.length, .int .i64 0], none) := fun O => by rw [P2, he]; rfl
  rw [he] at Q1
  by_cases hf : F = 0
  case neg =>
    have hf2 : (F != 0) = true := by simpa using hf
    have hf3 : (F == 0) = false := by simpa using hf
    have P4' : ∀ O, k_PutSets [.agg [v, .int .i64 K], u] O = some (.tup [.nils, .int .i64 F], none) := fun O => by rw [P4]; unfold cputV; rw [if_neg hf]
    simp -implicitDefEqProofs (maxSteps := 1000000) (disch := omega) [vd, wd, ud, g1, c_aliveA, aliveA, c_PutRow, P2', c_PutSets, P4', c_rRow, Q1, c_rSets, Q2, hf, hf2, hf3]
  have P4' : ∀ O, k_PutSets [.agg [v, .int .i64 K], u] O = some (.tup [.lst (.fresh 1 true) (ints .u8 B) B.length, .int .i64 0], none) := fun O => by rw [P4, hf]; rfl
  rw [hf] at Q2
  rw [he] at hE
  rw [hf] at hF
  have hE := hE.symm
  have hF := hF.symm
  obtain ⟨hg, hlen, hch⟩ := row_len hE
  obtain ⟨p1, p2, p3, p4, p5⟩ := chk_pos hg
  obtain ⟨-, hsp, hs12, hsch⟩ := sets_len hF
  have A8 : b8 A = true := by rw [hA]; exact rowZ_b8 wk
  have B8 : b8 B = true := by rw [hB]; exact setsZ_b8 uk
  have AB8 : b8 (A ++ B) = true := b8_app A8 B8
  have hAl : A.length ≤ 12 * 211 := by
    have h1 := catZ_le (f := rowZ [] cols row) (m := 211) (n := row.length) fun i hi => (cput_len (hch i hi) (ceOk_inv (wk i hi)).1).2
    rw [hA]; omega
  have hBl : B.length ≤ 10 + 12 * 221 := by
    have hp0 := M.putL_len10 (u := sets.length) (by omega)
    have := catZ_le (f := setZ [] cols sets) (m := 221) (n := sets.length) fun j hj => by
      obtain ⟨c0, c1, -, c3⟩ := hsch j hj
      have h1 := cput_len c3 (ceOk_inv (seOk_inv (uk j hj)).2).1
      have h2 := M.putL_len10 (u := (nth sets j).c.toNat) (by omega)
      unfold setZ
      rw [List.length_append]
      unfold cputC
      omega
    rw [hB]
    unfold setsZ
    rw [List.length_append]
    omega
  obtain ⟨r1, r2, r3⟩ := row_back hE wk [] B O1 (by rw [← hA]; exact AB8)
  rw [← hA, List.nil_append] at r1 r2 r3
  obtain ⟨z1, z2, z3, z4⟩ := sets_back hF uk A [] [] (by rw [← hB, List.append_nil]; exact AB8)
  rw [← hB, List.append_nil] at z1 z2 z3 z4
  simp only [List.length_nil, Int.ofNat_zero, Int.natCast_zero, Int.zero_add] at r1 r2 r3
  obtain ⟨D, hD⟩ : ∃ D, D = A ++ B := ⟨_, rfl⟩
  have hDl : A.length + B.length = D.length := by rw [hD]; simp
  have hDs : ints .u8 A ++ ints .u8 B = ints .u8 D := by rw [hD]; simp
  rw [← hD] at r1 r2 r3 z1 z2 z3 z4 AB8
  have f1 : ∀ (O : List AO) (x : List Int), ofIntsR .u8 O (.lst .frozen (ints .u8 x) x.length) = some x := fun O x => ofIntsR_of (ofInts_lst rfl)
  have kc : ∀ O, k_CatR [.lst .frozen (ints .u8 A) A.length, .lst .frozen (ints .u8 B) B.length] O = some (.lst (.fresh 1 false) (ints .u8 D) D.length, none) := fun O => by
    simp (disch := omega) [k_CatR, f1, hD]
  have hDo : ofInts .u8 (.lst .frozen (ints .u8 D) D.length) = some D := ofInts_lst rfl
  -- the row
  obtain ⟨r, k1, k1p⟩ := s_GetRowK (objs := O1) (p := 0) (S1 O1) hDo AB8 (by omega)
  obtain ⟨xv, O2, rfl, hold2, xd, xnt, -, xgood⟩ := k1p _ _ _ _ (S1 O1) hDo rfl
  have hX := xgood r1
  rw [r1, if_pos rfl, r2] at k1
  obtain ⟨X, x1, x2, -, -⟩ := hX.rows
  have hrt : (rowG cols D 0 cols.length).map (Ce.t O1) = row.map (Ce.t []) := r3
  rw [hrt] at x2
  -- the sets
  obtain ⟨r, k2, k2p⟩ := s_GetSetsK (objs := O2) (p := A.length) (S1 O2) hDo AB8 (by omega)
  obtain ⟨yv, O3, rfl, hold3, yd, ynt, -, ygood⟩ := k2p _ _ _ _ (S1 O2) hDo rfl
  have hY := ygood z1
  rw [z1, if_pos rfl, z2, Int.toNat_natCast, z3] at k2
  obtain ⟨Y, y1, y2, -, -⟩ := hY.rows
  rw [z2, Int.toNat_natCast, setsG_t AB8 O2 [], z4] at y2
  have a1 : k_AlikeRow [xv, w] O3 = some (.bool true, none) := by
    have x1' := rowR_old x1 hold3
    have e : X.map (Ce.t O3) = row.map (Ce.t []) := by
      rw [← x2]
      exact List.map_congr_left fun x hx => Ce.t_old ((rowR_inv x1).2 x hx) hold3
    have hXl : X.length = row.length := by have := congrArg List.length x2; simpa using this
    simp (disch := omega) [k_AlikeRow, x1', R1 O3, e, M1 O3]
  have a2 : k_AlikeSets [yv, u] O3 = some (.bool true, none) := by
    have hYl : Y.length = sets.length := by have := congrArg List.length y2; simpa using this
    simp (disch := omega) [k_AlikeSets, y1, U1 O3, y2, M2 O3]
  -- Apply
  have hnn : isNils w = false := nils_row hr (by omega)
  obtain ⟨r, k3, k3p⟩ := s_ApplyK (objs := O3) (S1 O3) (R1 O3) (U1 O3) (by omega) hnn
  obtain ⟨zv, O4, rfl, hold4, zd, znt, -, zgood⟩ := k3p _ _ _ _ (S1 O3) (R1 O3) (U1 O3)
  have hap : appE O3 cols K row sets = 0 := by
    rw [appE_old wk uk (old_nil O3)]; unfold appE; rw [if_pos hE]; exact hF
  obtain ⟨Zr, q1, q2, -, -⟩ := (zgood hap).rows
  rw [hap] at k3
  have hZl : Zr.length = row.length := by have := congrArg List.length q2; simpa [withR_len] using this
  obtain ⟨hz1, -, zn, zi, zk⟩ := rowF q1
  have g2 : Ab.getObj O2 0 0 = some [v, .int .i64 K] := by rw [hold2.2 0 0 (by omega)]; exact g1
  have hO2l : 1 ≤ O2.length := by have := hold2.1; omega
  have g3 : Ab.getObj O3 0 0 = some [v, .int .i64 K] := by rw [hold3.2 0 0 (by omega)]; exact g2
  have hxn : lenV Tryd.prog 59 (.lst .frozen (ints .u8 D) D.length) = some (.int .i64 D.length) := (bs hDo).2.1
  have hadl : (A.length : Int) + B.length = D.length := by omega
  simp -implicitDefEqProofs (maxSteps := 1000000) (disch := omega) [vd, wd, ud, g1, c_aliveA, aliveA, c_PutRow, P2', c_PutSets, P4', c_rRow, Q1, c_rSets, Q2, c_CatR, kc, c_GetRowK, k1, xd, xnt, g2, c_GetSetsK, k2, yd, ynt, g3, hadl, hDl, c_AlikeRow, a1, c_AlikeSets, a2, c_ApplyK, k3, zd, znt, zn, wn, hZl]
  have hasc := fun {t j : Nat} (h1 : j < t) (h2 : t < sets.length) => sets_asc hF h1 h2
  obtain ⟨I, hI⟩ : ∃ I : Nat → St → Prop, I = (fun (i : Nat) (z : St) => z.env 1 = w ∧ z.env 2 = u ∧ z.env 18 = zv ∧ z.env 134 = zv ∧ z.env 135 = .int .i64 row.length ∧ z.env 136 = .int .i64 i ∧ z.toks = [] ∧ z.low = 0 ∧ z.objs = O4 ∧ ∃ j : Nat, z.env 20 = .int .i64 j ∧ j ≤ sets.length ∧ (∀ t, t < j → (nth sets t).c < i) ∧ ∀ t, j ≤ t → t < sets.length → (i : Int) ≤ (nth sets t).c) := ⟨_, rfl⟩
  refine .up row.length I (by rw [hI]; exact ⟨by simp, by simp, by simp, by simp, by simp, by simp, rfl, rfl, rfl, 0, by simp, by omega, fun t ht => absurd ht (by omega), fun t _ ht => (hsch t ht).1⟩) ?_
  intro i z hi hz
  rw [hI] at hz
  obtain ⟨e1, e2, e18, e134, e135, e136, ht, hlo, ho, j, e20, hj, hj1, hj2⟩ := hz
  rcases Nat.lt_or_ge i row.length with h | h
  case inr =>
    obtain rfl : i = row.length := by omega
    have hjl : j = sets.length := by
      rcases Nat.lt_or_ge j sets.length with q | q
      · have := hj2 j (Nat.le_refl _) q
        have := (hsch j q).2.1
        omega
      · omega
    simp -implicitDefEqProofs (disch := omega) [e1, e2, e18, e134, e135, e136, e20, ht, ho, hlo, un, hjl]
  have ix := zi i (by omega)
  obtain ⟨c1, -⟩ := row_at hz1 (i := i) (by omega)
  have zk1 := ceOk_inv (zk i (by omega))
  have ht1 : (nth Zr i).t O4 = (nth (withR row sets) i).t O3 := by
    have this : nth (Zr.map (Ce.t O4)) i = nth ((withR row sets).map (Ce.t O3)) i := congrArg (fun l => nth l i) q2
    rwa [nth_map (by omega), nth_map (by rw [withR_len]; exact h)] at this
  have htake : sets.take sets.length = sets := List.take_length
  have hold0 : Old [] O4 := old_nil O4
  by_cases hit : j < sets.length ∧ (nth sets j).c = i
  · obtain ⟨h1, h2⟩ := hit
    have hW : nth (withR row sets) i = (nth sets j).x := by
      have := withR_hit (row := row) (sets := sets) (i := i) (j := j) (by omega) h (m := sets.length) h1 (Nat.le_refl _) fun t t1 t2 => by
        have := hasc t1 t2; omega
      rwa [htake] at this
    have jx := ui j h1
    obtain ⟨-, d1, d2, -⟩ := set_at (hu1.old hold0) h1
    have sk1 := ceOk_inv (ce_old (seOk_inv (uk j h1)).2 hold0).1
    rw [hW] at ht1
    have htt : (nth Zr i).t O4 = (nth sets j).x.t O4 := by
      rw [ht1, Ce.t_old (seOk_inv (uk j h1)).2 (old_nil O3), Ce.t_old (seOk_inv (uk j h1)).2 hold0]
    obtain ⟨x, hx⟩ : ∃ x, x = nth Zr i := ⟨_, rfl⟩
    obtain ⟨y, hy⟩ : ∃ y, y = (nth sets j).x := ⟨_, rfl⟩
    rw [← hx] at c1 zk1 htt
    rw [← hy] at d2 sk1 htt
    obtain ⟨-, m2, -, m4⟩ := zk1
    obtain ⟨-, n2, -, -⟩ := sk1
    obtain ⟨xn, xi, xvv⟩ := x
    obtain ⟨yn, yi, yvv⟩ := y
    unfold Ce.t at htt
    simp only [Prod.mk.injEq] at htt
    obtain ⟨rfl, rfl, tb⟩ := htt
    rw [← tb] at n2
    simp only at m2 n2
    obtain ⟨BB, hBB⟩ : ∃ BB, BB = (⟨xn, xi, xvv⟩ : Ce).b O4 := ⟨_, rfl⟩
    rw [← hBB] at m2 n2 m4
    obtain ⟨u1, u2, u3, u4⟩ := one_ofR m2
    obtain ⟨w1, w2, w3, w4⟩ := one_ofR n2
    have hlt : (j : Int) < sets.length := by omega
    rw [h2] at d1
    simp -implicitDefEqProofs (disch := omega) [e1, e2, e18, e134, e135, e136, e20, ht, ho, hlo, h, un, h1, hlt, ix, jx, c1, d1, d2, set_f0, set_f1, ceV, u1, u2, u3, u4, w1, w2, w3, w4, c_Alike, k_Alike, m2, n2, m4, wrap_small]
    rw [hI]
    refine ⟨by simp [e1], by simp [e2], by simp [e18], by simp [e134], by simp [e135], by simp, rfl, rfl, rfl, j + 1, by simp, by omega, fun t t1 => ?_, fun t t1 t2 => ?_⟩
    · rcases Nat.lt_or_ge t j with q | q
      · have := hj1 t q; omega
      · obtain rfl : t = j := by omega
        omega
    · have := hasc (show j < t by omega) t2
      omega
  · have hmiss : ∀ t, t < sets.length → (nth sets t).c ≠ i := fun t ht he => by
      rcases Nat.lt_trichotomy t j with q | q | q
      · have := hj1 t q; omega
      · subst q; exact hit ⟨ht, he⟩
      · have h1 := hj2 j (Nat.le_refl _) (by omega)
        have h2 := hasc q ht
        omega
    have hW : nth (withR row sets) i = nth row i := by
      have := withR_miss (row := row) (sets := sets) (i := i) (m := sets.length) (Nat.le_refl _) fun t t1 => by
        have := hmiss t t1
        have := (hsch t t1).1
        omega
      rwa [htake] at this
    have jx := wi i h
    obtain ⟨d2, -⟩ := row_at (hw1.old hold0) h
    have sk1 := ceOk_inv (ce_old (wk i h) hold0).1
    rw [hW] at ht1
    have htt : (nth Zr i).t O4 = (nth row i).t O4 := by
      rw [ht1, Ce.t_old (wk i h) (old_nil O3), Ce.t_old (wk i h) hold0]
    obtain ⟨x, hx⟩ : ∃ x, x = nth Zr i := ⟨_, rfl⟩
    obtain ⟨y, hy⟩ : ∃ y, y = nth row i := ⟨_, rfl⟩
    rw [← hx] at c1 zk1 htt
    rw [← hy] at d2 sk1 htt
    obtain ⟨-, m2, -, m4⟩ := zk1
    obtain ⟨-, n2, -, -⟩ := sk1
    obtain ⟨xn, xi, xvv⟩ := x
    obtain ⟨yn, yi, yvv⟩ := y
    unfold Ce.t at htt
    simp only [Prod.mk.injEq] at htt
    obtain ⟨rfl, rfl, tb⟩ := htt
    rw [← tb] at n2
    simp only at m2 n2
    obtain ⟨BB, hBB⟩ : ∃ BB, BB = (⟨xn, xi, xvv⟩ : Ce).b O4 := ⟨_, rfl⟩
    rw [← hBB] at m2 n2 m4
    obtain ⟨u1, u2, u3, u4⟩ := one_ofR m2
    obtain ⟨w1, w2, w3, w4⟩ := one_ofR n2
    have inv : ∀ s : St, s.env 1 = w → s.env 2 = u → s.env 18 = zv → s.env 134 = zv → s.env 135 = .int .i64 row.length → s.env 136 = .int .i64 ((i + 1 : Nat) : Int) → s.toks = [] → s.low = 0 → s.objs = O4 → s.env 20 = .int .i64 j → I (i + 1) s := fun s a1 a2 a3 a4 a5 a6 a7 a8 a9 a10 => by
      rw [hI]
      exact ⟨a1, a2, a3, a4, a5, a6, a7, a8, a9, j, a10, hj, fun t t1 => by have := hj1 t t1; omega, fun t t1 t2 => by have h1 := hj2 t t1 t2; have h2 := hmiss t t2; omega⟩
    rcases Nat.lt_or_ge j sets.length with h1 | h1
    · have kx := ui j h1
      obtain ⟨-, d1, -, -⟩ := set_at (hu1.old hold0) h1
      have hlt : (j : Int) < sets.length := by omega
      have hne := hmiss j h1
      have hne2 : ((nth sets j).c == (i : Int)) = false := by simpa using hne
      simp -implicitDefEqProofs (disch := omega) [e1, e2, e18, e134, e135, e136, e20, ht, ho, hlo, h, un, h1, hlt, hne, hne2, ix, jx, kx, c1, d1, d2, set_f0, set_f1, ceV, u1, u2, u3, u4, w1, w2, w3, w4, c_Alike, k_Alike, m2, n2, m4, wrap_small]
      exact inv _ (by simp [e1]) (by simp [e2]) (by simp [e18]) (by simp [e134]) (by simp [e135]) (by simp) rfl rfl rfl (by simp [e20])
    · have hlt : ¬ j < sets.length := by omega
      simp -implicitDefEqProofs (disch := omega) [e1, e2, e18, e134, e135, e136, e20, ht, ho, hlo, h, un, hlt, ix, jx, c1, d2, ceV, u1, u2, u3, u4, w1, w2, w3, w4, c_Alike, k_Alike, m2, n2, m4, wrap_small]
      exact inv _ (by simp [e1]) (by simp [e2]) (by simp [e18]) (by simp [e134]) (by simp [e135]) (by simp) rfl rfl rfl (by simp [e20]))

end Go.Proofs.YtnbgmclbbkfhhaaDoor.B
set_option maxRecDepth 20000
set_option maxHeartbeats 1000000
namespace Go.Proofs.YtnbgmclbbkfhhaaDoor.B
open Go Go.Ab
theorem walk_SchemaBack {D M n : Nat} {vs : List V} {args : Array Value} {W : World} (hS : ShpAll Tryd.prog (D + 64) M n [24, 25, 26] vs) (hA : AR (top W) W vs args.toList) : Calls Tryd.prog 7 args W fun e W' => e = .returned (.bool true) ∧ Go.RowKit.Below W.heap.size W W' := by
  match vs, hS with
  | [v0, v1, v2], ⟨s0, s1, s2, _⟩ =>
    obtain ⟨cols, K, c1, c2, -⟩ := in_schema s0
    obtain ⟨row, r1, r2, -⟩ := in_row s1
    obtain ⟨sets, t1, t2, -⟩ := in_set s2
    refine whole fit T_SchemaBack_ok (fn := Tryd.f7) (by kernel_rfl) (by kernel_rfl) ?_ hA
    show k_SchemaBack [v0, v1, v2] [] = _
    simp (disch := omega) [k_SchemaBack, c1, r1, t1]

end Go.Proofs.YtnbgmclbbkfhhaaDoor.B
