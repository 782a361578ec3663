import Derived.Test.YtiaihiccaoibgaaDoorKxB
set_option linter.unusedSimpArgs false
set_option linter.unusedVariables false
set_option linter.unusedSectionVars false
set_option maxRecDepth 20000
set_option maxHeartbeats 1000000
namespace Go.Proofs.YtiaihiccaoibgaaDoor.B
open Go Go.Ab
/-! keys back from their bytes -/
theorem uN_cons (c : Int) : ∀ (n : Nat) {l : List Int} (_ : l.length = n), uN (c :: l) = c * 256 ^ n + uN l
  | 0, l, h => by rw [List.eq_nil_of_length_eq_zero h]; show 0 * 256 + c = c * 256 ^ 0 + 0; omega
  | n + 1, l, h => by
    obtain ⟨m, d, rfl⟩ : ∃ m d, l = m ++ [d] := by
      have hne : l ≠ [] := by rintro rfl; simp at h
      exact ⟨l.dropLast, l.getLast hne, (List.dropLast_concat_getLast hne).symm⟩
    have ih := uN_cons c n (l := m) (by simpa using h)
    rw [← List.cons_append, uN_snoc, uN_snoc, ih, Int.pow_succ, Int.add_mul, Int.mul_assoc]; omega
theorem uN_beZ : ∀ (n : Nat) {u : Int}, 0 ≤ u → u < 18446744073709551616 → uN (beZ n u) = u % 256 ^ n
  | 0, u, _, _ => by show (0 : Int) = u % 1; omega
  | n + 1, u, h0, h1 => by
    have hu := divs_nn (n := n) h0 h1
    rw [beZ_succ, uN_cons _ n (beZ_len n u), uN_beZ n h0 h1, pow_split n, wrap_tmod hu.1, wrapU8, divs_div n h0 h1]
theorem beZ_uN : ∀ (n : Nat) {l : List Int} (_ : ∀ c ∈ l, 0 ≤ c ∧ c < 256) (_ : l.length = n) (_ : n ≤ 8) (h : Int) (_ : 0 ≤ h) (_ : h * 256 ^ n + uN l < 18446744073709551616), beZ n (h * 256 ^ n + uN l) = l
  | 0, l, _, hl, _, _, _, _ => by rw [List.eq_nil_of_length_eq_zero hl]; rfl
  | n + 1, l, hb, hl, h8, h, h0, h1 => by
    match l, hl with
    | c :: l, hl =>
      have hl' : l.length = n := by simpa using hl
      have hc := hb c (by simp)
      have hB : ∀ d ∈ l, 0 ≤ d ∧ d < 256 := fun d hd => hb d (by simp [hd])
      obtain ⟨u0, u1⟩ := uN_range n hB hl'
      have hp : (0 : Int) < 256 ^ n := Int.pow_pos (by decide)
      have e : h * 256 ^ (n + 1) + uN (c :: l) = (h * 256 + c) * 256 ^ n + uN l := by
        rw [uN_cons c n hl', Int.pow_succ, Int.add_mul, Int.mul_comm (256 ^ n) 256, ← Int.mul_assoc, Int.add_assoc]
      have hq : 0 ≤ h * 256 + c := by omega
      have h2 : 0 ≤ (h * 256 + c) * 256 ^ n := Int.mul_nonneg hq (by omega)
      rw [e] at h1 ⊢
      rw [beZ_succ, beZ_uN n hB hl' (by omega) (h * 256 + c) hq h1]
      have hd := divs_nn (n := n) (u := (h * 256 + c) * 256 ^ n + uN l) (by omega) h1
      rw [wrap_tmod hd.1, divs_div n (by omega) h1, wrapU8]
      have e3 : ((h * 256 + c) * 256 ^ n + uN l) / 256 ^ n = h * 256 + c := by
        rw [Int.add_comm, Int.add_mul_ediv_right _ _ (by omega), Int.ediv_eq_zero_of_lt u0 u1, Int.zero_add]
      rw [e3]
      congr 1
      omega
theorem ku_un (k u : Int) : kuZ k (unK k u) = u := by unfold kuZ unK; split <;> omega
theorem un_ku (k i : Int) : unK k (kuZ k i) = i := by unfold kuZ unK; split <;> omega
theorem rd8_put : ∀ (t s : List Int), rd8 (t.flatMap esc ++ 0 :: 0 :: s) = some (t, (t.flatMap esc).length + 2)
  | [], s => by show rd8 (0 :: 0 :: s) = _; rw [rd8_cc]; rfl
  | c :: t, s => by
    have ih := rd8_put t s
    rw [List.flatMap_cons, List.append_assoc]
    by_cases hc : c = 0
    · subst hc
      show rd8 (0 :: 255 :: (t.flatMap esc ++ 0 :: 0 :: s)) = some (0 :: t, ([0, 255] ++ t.flatMap esc).length + 2)
      rw [rd8_cc, if_pos rfl, if_neg (by decide), if_pos rfl, ih]
      simp
    · have e : esc c = [c] := if_neg hc
      rw [e]
      show rd8 (c :: (t.flatMap esc ++ 0 :: 0 :: s)) = _
      rw [rd8_ne hc, ih]
      simp
theorem rd7_take : ∀ {l t : List Int} {n : Nat}, rd7 l = some (t, n) → l.take n = t ++ [0]
  | [], t, n, h => by cases h
  | c :: l, t, n, h => by
    unfold rd7 at h
    split at h
    · rename_i hc; cases h; rw [hc]; rfl
    · obtain ⟨p, hp, h⟩ := Option.map_eq_some_iff.1 h
      cases h
      have ih := rd7_take (l := l) (t := p.1) (n := p.2) hp
      rw [List.take_succ_cons, ih]; rfl
theorem rd8_take : ∀ {l t : List Int} {n : Nat}, rd8 l = some (t, n) → l.take n = t.flatMap esc ++ [0, 0]
  | [], t, n, h => by cases h
  | [_], t, n, h => by cases h
  | c :: d :: l, t, n, h => by
    rw [rd8_cc] at h
    split at h
    · rename_i hc
      split at h
      · rename_i hd; cases h; rw [hc, hd]; rfl
      · split at h
        · rename_i hd
          obtain ⟨p, hp, h⟩ := Option.map_eq_some_iff.1 h
          cases h
          have ih := rd8_take (l := l) (t := p.1) (n := p.2) hp
          rw [List.take_succ_cons, List.take_succ_cons, ih, hc, hd]; rfl
        · cases h
    · rename_i hc
      obtain ⟨p, hp, h⟩ := Option.map_eq_some_iff.1 h
      cases h
      have ih := rd8_take (l := d :: l) (t := p.1) (n := p.2) hp
      rw [List.take_succ_cons, ih, List.flatMap_cons]
      have e : esc c = [c] := if_neg hc
      rw [e]; rfl
/-- A cell is read again from its bytes. -/
theorem rdG_put {k i : Int} {n : Bool} {t : List Int} (h : checkR k false n i t = 0) (hi : i64B i = true) (s : List Int) : (rdG k (kput k i t ++ s)).ok = true ∧ (rdG k (kput k i t ++ s)).i = i ∧ (rdG k (kput k i t ++ s)).t.getD [] = t ∧ (rdG k (kput k i t ++ s)).n = (kput k i t).length := by
  obtain ⟨rfl, k1, k8, a6, a7, -⟩ := chk_key h
  by_cases k6 : k ≤ 6
  · obtain ⟨hh, rfl⟩ := a6 k6
    obtain ⟨-, -, -, -, -, u0, u1⟩ := knum_fact hi k1 k6 hh
    obtain ⟨n1, n8⟩ := ksize_pos ⟨k1, k6⟩
    have hp := pow_le8 (n := (ksize k).toNat) (by omega)
    have e : kput k i [] = beZ (ksize k).toNat (kuZ k i) := by unfold kput; rw [if_pos k6]
    have hl := beZ_len (ksize k).toNat (kuZ k i)
    have hG : rdG k (kput k i [] ++ s) = ⟨i, none, (ksize k).toNat, true⟩ := by
      unfold rdG
      rw [if_pos k6, e, if_neg (by rw [List.length_append, hl]; omega)]
      have : (beZ (ksize k).toNat (kuZ k i) ++ s).take (ksize k).toNat = beZ (ksize k).toNat (kuZ k i) := by
        rw [List.take_append_of_le_length (by omega), List.take_of_length_le (by omega)]
      rw [this, uN_beZ _ u0 (by omega), Int.emod_eq_of_lt u0 u1, un_ku]
    rw [hG, e, hl]
    exact ⟨rfl, rfl, rfl, rfl⟩
  · obtain ⟨rfl, t1⟩ := a7 (by omega)
    have e := kput_text (i := 0) (l := t) (show 6 < k by omega) k8
    by_cases hk : k = 7
    · subst hk
      have hp : kput 7 0 t = t ++ [0] := rfl
      have hG : rdG 7 (kput 7 0 t ++ s) = ⟨0, some t, t.length + 1, true⟩ := by
        unfold rdG
        rw [if_neg (by decide), if_pos rfl, hp, List.append_assoc]
        show rdT (rd7 (t ++ 0 :: s)) = _
        rw [rd7_some s (textR_zero t1)]; rfl
      rw [hG, hp]
      exact ⟨rfl, rfl, rfl, by simp⟩
    · have k8' : k = 8 := by omega
      subst k8'
      have hp : kput 8 0 t = t.flatMap esc ++ [0, 0] := rfl
      have hG : rdG 8 (kput 8 0 t ++ s) = ⟨0, some t, (t.flatMap esc).length + 2, true⟩ := by
        unfold rdG
        rw [if_neg (by decide), if_neg (by decide), hp, List.append_assoc]
        show rdT (rd8 (t.flatMap esc ++ 0 :: 0 :: s)) = _
        rw [rd8_put]; rfl
      rw [hG, hp]
      exact ⟨rfl, rfl, rfl, by rw [List.length_append]; rfl⟩
/-- Bytes that are read are the only ones of their cell. -/
theorem put_rdG {k : Int} {l : List Int} (h8 : b8 l = true) (k1 : 1 ≤ k) (k8 : k ≤ 8) (hok : (rdG k l).ok = true) : l.take (rdG k l).n = kput k (rdG k l).i ((rdG k l).t.getD []) := by
  have hB := b8_iff.1 h8
  by_cases k6 : k ≤ 6
  · obtain ⟨n1, n8⟩ := ksize_pos ⟨k1, k6⟩
    have hG : rdG k l = if l.length < (ksize k).toNat then .bad else ⟨unK k (uN (l.take (ksize k).toNat)), none, (ksize k).toNat, true⟩ := by unfold rdG; rw [if_pos k6]
    rw [hG] at hok ⊢
    by_cases hs : l.length < (ksize k).toNat
    · rw [if_pos hs] at hok; cases hok
    · rw [if_neg hs]
      have hl : (l.take (ksize k).toNat).length = (ksize k).toNat := by rw [List.length_take]; omega
      have hb : ∀ c ∈ l.take (ksize k).toNat, 0 ≤ c ∧ c < 256 := fun c hc => hB c (List.mem_of_mem_take hc)
      obtain ⟨u0, u1⟩ := uN_range _ hb hl
      have hp := pow_le8 (n := (ksize k).toNat) (by omega)
      have h := beZ_uN _ hb hl (by omega) 0 (Int.le_refl _) (by rw [Int.zero_mul]; omega)
      rw [Int.zero_mul, Int.zero_add] at h
      unfold kput
      rw [if_pos k6, ku_un]
      exact h.symm
  · by_cases hk : k = 7
    · subst hk
      have hG : rdG 7 l = rdT (rd7 l) := by unfold rdG; rw [if_neg (by decide), if_pos rfl]
      rw [hG] at hok ⊢
      cases hr : rd7 l with
      | none => rw [hr] at hok; cases hok
      | some p => exact rd7_take hr
    · have k8' : k = 8 := by omega
      subst k8'
      have hG : rdG 8 l = rdT (rd8 l) := by unfold rdG; rw [if_neg (by decide), if_neg (by decide)]
      rw [hG] at hok ⊢
      cases hr : rd8 l with
      | none => rw [hr] at hok; cases hok
      | some p => exact rd8_take hr

theorem catZ_split {f : Nat → List Int} {n : Nat} : ∀ (m : Nat), m < n → ∀ t, catZ f n = catZ f m ++ t → ∃ t', t = f m ++ t' ∧ catZ f n = catZ f (m + 1) ++ t' := fun m hm t ht => by
  obtain ⟨t', h'⟩ := catZ_pre f (m + 1) (n - (m + 1))
  rw [show m + 1 + (n - (m + 1)) = n by omega] at h'
  refine ⟨t', ?_, h'⟩
  rw [h', catZ_succ, List.append_assoc] at ht
  exact (List.append_cancel_left ht).symm
/-- A whole key's bytes are read as its cells. -/
theorem dec_enc {objs : List AO} {cols : List Co} {K : Int} {row : List Ce} (hE : encE objs cols K row = 0) (hk : ∀ i, i < row.length → ceOk objs (nth row i) = true) (s : List Int) :
    ∀ i, i ≤ row.length → (∃ t, encZ objs cols row = catZ (encF objs cols row) i ++ t ∧ restD cols (encZ objs cols row ++ s) i = t ++ s) ∧ ∀ j, j < i → (gD cols (encZ objs cols row ++ s) j).ok = true ∧ (gD cols (encZ objs cols row ++ s) j).i = (nth row j).i ∧ (gD cols (encZ objs cols row ++ s) j).t.getD [] = (nth row j).b objs := by
  obtain ⟨-, -, -, hc⟩ := encE_zero hE
  intro i
  induction i with
  | zero => intro _; exact ⟨⟨_, rfl, rfl⟩, fun j hj => absurd hj (by omega)⟩
  | succ i ih =>
    intro hi
    obtain ⟨⟨t, h1, h2⟩, h3⟩ := ih (by omega)
    obtain ⟨t', e1, e2⟩ := catZ_split i (by omega) t h1
    have hx := hc i (by omega)
    have hp := rdG_put (k := (nth cols i).k) hx (ceOk_inv (hk i (by omega))).1 (t' ++ s)
    have hF : encF objs cols row i = kput (nth cols i).k (nth row i).i ((nth row i).b objs) := rfl
    have hg : gD cols (encZ objs cols row ++ s) i = rdG (nth cols i).k (kput (nth cols i).k (nth row i).i ((nth row i).b objs) ++ (t' ++ s)) := by
      unfold gD
      rw [h2, e1, hF, List.append_assoc]
    rw [← hg] at hp
    obtain ⟨q1, q2, q3, q4⟩ := hp
    refine ⟨⟨t', e2, ?_⟩, fun j hj => ?_⟩
    · rw [restD_succ, h2, q4, e1, hF, List.append_assoc, List.drop_left]
    · rcases Nat.lt_or_ge j i with hj2 | hj2
      · exact h3 j hj2
      · obtain rfl : j = i := by omega
        exact ⟨q1, q2, q3⟩
theorem dec_key {objs : List AO} {cols : List Co} {K : Int} {row : List Ce} (hE : encE objs cols K row = 0) (hk : ∀ i, i < row.length → ceOk objs (nth row i) = true) (hK : (row.length : Int) = K) (s : List Int) :
    decE cols K (encZ objs cols row ++ s) = (if s = [] then 0 else 70) := by
  obtain ⟨hg, -, -, hc⟩ := encE_zero hE
  obtain ⟨⟨t, h1, h2⟩, h3⟩ := dec_enc hE hk s row.length (Nat.le_refl _)
  have ht : t = [] := by
    have : encZ objs cols row ++ [] = encZ objs cols row ++ t := by rw [List.append_nil]; exact h1
    exact (List.append_cancel_left this).symm
  rw [ht, List.nil_append] at h2
  have hKn : K.toNat = row.length := by omega
  unfold decE
  rw [if_pos hg, hKn, h2]
  have hF : firstE (okD cols (encZ objs cols row ++ s)) row.length 0 = 0 := firstE_none fun j _ hj => by
    obtain ⟨a1, a2, a3⟩ := h3 j (by omega)
    unfold okD
    rw [if_pos a1, a2, a3]
    have := hc j (by omega)
    have hn := (chk_key this).1
    unfold chkK at this
    rw [hn] at this
    exact this
  by_cases hs : s = []
  · rw [if_pos ⟨hF, hs⟩, if_pos hs]
  · rw [if_neg fun q => hs q.2, if_neg hs]
theorem dec_row {objs : List AO} {cols : List Co} {K : Int} {row : List Ce} (hE : encE objs cols K row = 0) (hk : ∀ i, i < row.length → ceOk objs (nth row i) = true) (hK : (row.length : Int) = K) (h8 : b8 (encZ objs cols row) = true) (O : List AO) :
    (rowD cols (encZ objs cols row) K.toNat).map (Ce.t O) = row.map (Ce.t objs) := by
  obtain ⟨hg, -, -, hc⟩ := encE_zero hE
  have hl := (encZ_len hE).2
  obtain ⟨p1, p2, p3, p4, p5⟩ := chk_pos hg
  obtain ⟨-, h3⟩ := dec_enc hE hk [] row.length (Nat.le_refl _)
  simp only [List.append_nil] at h3
  refine ext_nth (by simp [rowD_len]; omega) fun j hj => ?_
  rw [List.length_map, rowD_len] at hj
  have hjr : j < row.length := by omega
  rw [nth_map (by rw [rowD_len]; exact hj), nth_map hjr]
  have e : nth (rowD cols (encZ objs cols row) K.toNat) j = cD (gD cols (encZ objs cols row) j) := by
    rw [nth_lt (by rw [rowD_len]; exact hj)]
    exact of_get (rowD_at hj) _
  obtain ⟨a1, a2, a3⟩ := h3 j hjr
  obtain ⟨g1, -, g2⟩ := gD_ok hg h8 (by omega) (i := j) (by omega)
  rw [e, cD_t ⟨g1, g2⟩, a2, a3]
  unfold Ce.t
  rw [(chk_key (hc j hjr)).1]
/-- Bytes that are read as a key are its bytes. -/
theorem enc_dec {cols : List Co} {K : Int} {b : List Int} (hD : decE cols K b = 0) (h8 : b8 b = true) : ∀ i, i ≤ K.toNat → b = catZ (fun j => kput (nth cols j).k (gD cols b j).i ((gD cols b j).t.getD [])) i ++ restD cols b i := by
  obtain ⟨hg, hok, -⟩ := decE_zero hD
  obtain ⟨p1, p2, p3, p4, p5⟩ := chk_pos hg
  intro i
  induction i with
  | zero => intro _; rfl
  | succ i ih =>
    intro hi
    have h := ih (by omega)
    obtain ⟨q1, q2⟩ := okD_zero (hok i (by omega))
    obtain ⟨k1, k8⟩ := chk_kind hg (i := i) (by omega)
    have hp := put_rdG (restD_ok (cols := cols) h8 i).1 k1 k8 q1
    rw [catZ_succ, List.append_assoc, restD_succ]
    show b = _ ++ (kput (nth cols i).k (rdG (nth cols i).k (restD cols b i)).i ((rdG (nth cols i).k (restD cols b i)).t.getD []) ++ (restD cols b i).drop (rdG (nth cols i).k (restD cols b i)).n)
    rw [← hp, List.take_append_drop]
    exact h
theorem dec_out {O : List AO} {cols : List Co} {K : Int} {b : List Int} {out : List Ce} {objs : List AO} (hD : decE cols K b = 0) (h8 : b8 b = true) (hl : b.length < 140737488353000) (ho : out.map (Ce.t O) = (rowD cols b K.toNat).map (Ce.t objs)) : encE O cols K out = 0 ∧ encZ O cols out = b ∧ keyE O cols K out = 0 := by
  obtain ⟨hg, hok, hr⟩ := decE_zero hD
  obtain ⟨p1, p2, p3, p4, p5⟩ := chk_pos hg
  have hlen : out.length = K.toNat := by have := congrArg List.length ho; simpa [rowD_len] using this
  have hat : ∀ j, j < K.toNat → (nth out j).n = false ∧ (nth out j).i = (gD cols b j).i ∧ (nth out j).b O = (gD cols b j).t.getD [] := fun j hj => by
    have e1 := nth_map (g := Ce.t O) (l := out) (i := j) (by omega)
    have e2 := nth_map (g := Ce.t objs) (l := rowD cols b K.toNat) (i := j) (by rw [rowD_len]; exact hj)
    rw [ho, e2] at e1
    have e : nth (rowD cols b K.toNat) j = cD (gD cols b j) := by
      rw [nth_lt (by rw [rowD_len]; exact hj)]
      exact of_get (rowD_at hj) _
    obtain ⟨g1, -, g2⟩ := gD_ok hg h8 hl (i := j) (by omega)
    rw [e, cD_t ⟨g1, g2⟩] at e1
    unfold Ce.t at e1
    simp only [Prod.mk.injEq] at e1
    exact ⟨e1.1.symm, e1.2.1.symm, e1.2.2.symm⟩
  have hck : ∀ j, j < K.toNat → chkK O (nth cols j) (nth out j) = 0 := fun j hj => by
    obtain ⟨a1, a2, a3⟩ := hat j hj
    unfold chkK
    rw [a1, a2, a3]
    exact (okD_zero (hok j hj)).2
  have hE : encE O cols K out = 0 := by
    unfold encE
    rw [if_pos hg, if_pos ⟨by omega, by omega⟩]
    exact firstE_none fun j _ hj => hck j (by omega)
  refine ⟨hE, ?_, ?_⟩
  · have h := enc_dec hD h8 K.toNat (Nat.le_refl _)
    rw [hr, List.append_nil] at h
    unfold encZ
    rw [hlen]
    refine Eq.trans (catZ_congr (g := fun j => kput (nth cols j).k (gD cols b j).i ((gD cols b j).t.getD [])) fun i hi => ?_) h.symm
    obtain ⟨a1, a2, a3⟩ := hat i hi
    show kput (nth cols i).k (nth out i).i ((nth out i).b O) = _
    rw [a2, a3]
  · unfold keyE cellsN
    rw [if_pos hg, if_pos hlen]
    exact firstE_none fun j _ hj => by
      have hc := chk_col hg (i := j) (by omega) (by omega)
      show checkR (nth cols j).k (nth cols j).n (nth out j).n (nth out j).i ((nth out j).b O) = 0
      rw [hc]
      exact hck j (by omega)

end Go.Proofs.YtiaihiccaoibgaaDoor.B
set_option maxRecDepth 20000
set_option maxHeartbeats 1000000
namespace Go.Proofs.YtiaihiccaoibgaaDoor.B
open Go Go.Ab
noncomputable def k_KeysOneToOne : Ab.Spec := con3 some some (ofInts .u8) fun s w b objs => match objs with
  | [] => match schD [] s, rowR [] w with | some _, some a => bnd a.length 140737488355328 (bnd b.length 140737488352000 (if b8 b = true then some (.bool true, none) else none)) | _, _ => none
  | _ => none
noncomputable def T_KeysOneToOne : CallF := withF T_KeysDecodes 6 k_KeysOneToOne
theorem T_KeysOneToOne_ok : CallOk Tryd.prog T_KeysOneToOne := con_of (A := annOf [] [] [] false [17]) fit T_KeysDecodes_ok (fn := Tryd.f6) (by kernel_rfl) (by kernel_rfl) (by
  intro args objs r h0
  have c_aliveA : ∀ a o, T_KeysDecodes 10 a o = k_aliveA a o := fun _ _ => rfl
  have c_rKey : ∀ a o, T_KeysDecodes 29 a o = k_rKey a o := fun _ _ => rfl
  have c_Enc : ∀ a o, T_KeysDecodes 13 a o = k_Enc a o := fun _ _ => rfl
  have c_Dec : ∀ a o, T_KeysDecodes 17 a o = k_Dec a o := fun _ _ => rfl
  have c_CatR : ∀ a o, T_KeysDecodes 21 a o = k_CatR a o := fun _ _ => rfl
  have c_AlikeRow : ∀ a o, T_KeysDecodes 15 a o = k_AlikeRow a o := fun _ _ => rfl
  have c_CopyR : ∀ a o, T_KeysDecodes 30 a o = k_CopyR a o := fun _ _ => rfl
  have c_SameR : ∀ a o, T_KeysDecodes 26 a o = k_SameR a o := fun _ _ => rfl
  obtain ⟨s, w, y, _, _, b, rfl, hs, hw, hy, hR⟩ := con3_inv h0
  cases hs; cases hw
  split at hR
  case h_2 => cases hR
  split at hR
  case h_2 => cases hR
  rename_i pr row hsc hr
  obtain ⟨cols, K⟩ := pr
  obtain ⟨hrl, hR⟩ := bnd_inv hR
  obtain ⟨hbl, hR⟩ := bnd_inv hR
  split at hR
  case isFalse => cases hR
  rename_i h8
  cases hR
  obtain ⟨v, rfl, hc, hl, hsh⟩ := schD_inv hsc
  have vd := (colsV hc).dem
  obtain ⟨-, wd, wn, -, rk⟩ := rowF hr
  obtain ⟨yd, yn, yi, -⟩ := bs hy
  have S1 := fun O => schD_old hsc (old_nil O)
  have R1 := fun O => rowR_old hr (old_nil O)
  have yO := fun O => ofIntsR_of (objs := O) hy
  have f1 : ∀ (O : List AO) (x : List Int), ofIntsR .u8 O (.lst .frozen (ints .u8 x) x.length) = some x := fun O x => ofIntsR_of (ofInts_lst rfl)
  obtain ⟨O1, hO1⟩ : ∃ O1, O1 = [AO.cells [v, .int .i64 K] 0] := ⟨_, rfl⟩
  have hO1l : O1.length = 1 := by rw [hO1]; rfl
  have g1 : Ab.getObj O1 0 0 = some [v, .int .i64 K] := by rw [hO1]; rfl
  have e1 : ofInts .u8 (.lst .frozen (ints .u8 b) b.length) = some b := ofInts_lst rfl
  have kC : ∀ O, k_CopyR [y] O = some (.lst (.fresh 1 true) (ints .u8 b) b.length, none) := fun O => by
    simp (disch := omega) [k_CopyR, yO]
  obtain ⟨E2, hE2⟩ : ∃ E, E = decE cols K b := ⟨_, rfl⟩
  have part2 : ∀ O, Old O1 O → ∃ x O4, k_Dec [.agg [v, .int .i64 K], .lst .frozen (ints .u8 b) b.length] O = some (.tup [x, .int .i64 E2], some (O4, O.length)) ∧ demote x = x ∧ ntup x = some x ∧ Ab.getObj O4 0 0 = some [v, .int .i64 K] ∧ (E2 ≠ 0 → x = .nils) ∧
      (E2 = 0 → k_Enc [.agg [v, .int .i64 K], x] O4 = some (.tup [.lst (.fresh 1 true) (ints .u8 b) b.length, .int .i64 0], none) ∧ k_rKey [.agg [v, .int .i64 K], x] O4 = some (.int .i64 0, none)) := fun O hO => by
    obtain ⟨r, k1, k1p⟩ := s_Dec (objs := O) (S1 O) e1 h8 (by omega)
    obtain ⟨x, O4, rfl, hold4, xd, xn, xbad, xgood⟩ := k1p _ _ _ (S1 O) e1
    rw [← hE2] at k1 xbad xgood
    refine ⟨x, O4, k1, xd, xn, by rw [(hO.trans hold4).2 0 0 (by omega)]; exact g1, xbad, fun hz => ?_⟩
    obtain ⟨out, h1, h2, -, -⟩ := (xgood hz).rows
    obtain ⟨q1, q2, q3⟩ := dec_out (hE2 ▸ hz) h8 (by omega) h2
    exact ⟨by simp [k_Enc, S1 O4, h1, q1, q2, cputV], by simp [k_rKey, S1 O4, h1, q3]⟩
  obtain ⟨Ek, hEk⟩ : ∃ E, E = keyE [] cols K row := ⟨_, rfl⟩
  have Q1 : ∀ O, k_rKey [.agg [v, .int .i64 K], w] O = some (.int .i64 Ek, none) := fun O => by
    have ho := old_nil O
    simp [k_rKey, S1 O, R1 O, keyE_old rk ho, ← hEk]
  refine .go _ rfl rfl ?_
  simp -implicitDefEqProofs [vd]
  rw [← hO1]
  by_cases ek : Ek = 0
  case neg =>
    have ek' : (Ek == 0) = false := by simpa using ek
    obtain ⟨x, O4, k1, xd, xn, g4, xbad, xgood⟩ := part2 O1 (Old.refl _)
    by_cases hz : E2 = 0
    · obtain ⟨m1, m2⟩ := xgood hz
      simp -implicitDefEqProofs (maxSteps := 1000000) (disch := omega) [vd, wd, yd, c_aliveA, aliveA, g1, c_rKey, Q1, ek, ek', c_CopyR, kC, c_Dec, k1, xd, xn, g4, hz, c_Enc, m1, m2, c_SameR, k_SameR, f1, yO]
    · have hz2 : (E2 != 0) = true := by simpa using hz
      have hx := xbad hz
      subst hx
      simp -implicitDefEqProofs (maxSteps := 1000000) (disch := omega) [vd, wd, yd, c_aliveA, aliveA, g1, c_rKey, Q1, ek, ek', c_CopyR, kC, c_Dec, k1, xn, g4, hz, hz2]
  obtain ⟨hg, hK, hE⟩ := key_enc (hEk.symm.trans ek)
  obtain ⟨A, hA⟩ : ∃ A, A = encZ [] cols row := ⟨_, rfl⟩
  have A8 : b8 A = true := by rw [hA]; exact encZ_b8 rk
  have lA := encZ_len hE
  rw [← hA] at lA
  have P1 : ∀ O, k_Enc [.agg [v, .int .i64 K], w] O = some (.tup [.lst (.fresh 1 true) (ints .u8 A) A.length, .int .i64 0], none) := fun O => by
    have ho := old_nil O
    simp [k_Enc, S1 O, R1 O, encE_old rk ho, encZ_old rk ho, hE, ← hA, cputV]
  have d0 := dec_key hE rk hK []
  rw [List.append_nil, ← hA, if_pos rfl] at d0
  have d7 := dec_key hE rk hK [7]
  rw [← hA, if_neg (by decide)] at d7
  have eA : ofInts .u8 (.lst .frozen (ints .u8 A) A.length) = some A := ofInts_lst rfl
  obtain ⟨B, hB⟩ : ∃ B, B = A ++ [7] := ⟨_, rfl⟩
  rw [← hB] at d7
  have lB : B.length = A.length + 1 := by rw [hB]; simp
  have B8 : b8 B = true := b8_iff.2 fun c hc => by
    rw [hB] at hc
    rcases List.mem_append.1 hc with q | q
    · exact b8_iff.1 A8 c q
    · simp at q; omega
  have eB : ofInts .u8 (.lst .frozen (ints .u8 B) B.length) = some B := ofInts_lst rfl
  have kB : ∀ O, k_CatR [.lst .frozen (ints .u8 A) A.length, .lst .frozen [.int .u8 7] 1] O = some (.lst (.fresh 1 false) (ints .u8 B) B.length, none) := fun O => by
    have f7 : ofIntsR .u8 O (.lst .frozen [.int .u8 7] 1) = some [7] := f1 O [7]
    simp (disch := omega) [k_CatR, f1, f7, hB]
  obtain ⟨r1, k1, k1p⟩ := s_Dec (objs := O1) (S1 O1) eA A8 (by omega)
  obtain ⟨x1, O2, rfl, hold2, x1d, x1n, -, x1good⟩ := k1p _ _ _ (S1 O1) eA
  rw [d0] at k1 x1good
  obtain ⟨r2, k2, k2p⟩ := s_Dec (objs := O2) (S1 O2) eB B8 (by omega)
  obtain ⟨x2, O3, rfl, hold3, x2d, x2n, x2bad, -⟩ := k2p _ _ _ (S1 O2) eB
  rw [d7] at k2 x2bad
  have hx2 := x2bad (by decide)
  subst hx2
  obtain ⟨out, h1, h2, -, -⟩ := (x1good rfl).rows
  have g2 : Ab.getObj O2 0 0 = some [v, .int .i64 K] := by rw [hold2.2 0 0 (by omega)]; exact g1
  have g3 : Ab.getObj O3 0 0 = some [v, .int .i64 K] := by rw [(hold2.trans hold3).2 0 0 (by omega)]; exact g1
  have hal : out.map (Ce.t O3) = row.map (Ce.t O3) := by
    have m1 : out.map (Ce.t O3) = out.map (Ce.t O2) := List.map_congr_left fun x hx => Ce.t_old ((rowR_inv h1).2 x hx) hold3
    have m2 : row.map (Ce.t O3) = row.map (Ce.t []) := List.map_congr_left fun x hx => Ce.t_old ((rowR_inv hr).2 x hx) (old_nil O3)
    rw [m1, m2, h2, hA, dec_row hE rk hK (hA ▸ A8) O1]
  have hol : out.length = row.length := by have := congrArg List.length hal; simpa using this
  have kL : k_AlikeRow [x1, w] O3 = some (.bool true, none) := by
    simp (disch := omega) [k_AlikeRow, rowR_old h1 hold3, R1 O3, hal]
  obtain ⟨x, O4, k3, xd, xn, g4, xbad, xgood⟩ := part2 O3 (hold2.trans hold3)
  by_cases hz : E2 = 0
  · obtain ⟨m1, m2⟩ := xgood hz
    simp -implicitDefEqProofs (maxSteps := 1000000) (disch := omega) [vd, wd, yd, c_aliveA, aliveA, g1, c_rKey, Q1, ek, P1, k1, x1d, x1n, g2, blit1, c_CatR, kB, k2, x2n, g3, c_AlikeRow, kL, c_CopyR, kC, c_Dec, k3, xd, xn, g4, hz, c_Enc, m1, m2, c_SameR, k_SameR, f1, yO]
  · have hz2 : (E2 != 0) = true := by simpa using hz
    have hx := xbad hz
    subst hx
    simp -implicitDefEqProofs (maxSteps := 1000000) (disch := omega) [vd, wd, yd, c_aliveA, aliveA, g1, c_rKey, Q1, ek, P1, k1, x1d, x1n, g2, blit1, c_CatR, kB, k2, x2n, g3, c_AlikeRow, kL, c_CopyR, kC, c_Dec, k3, xn, g4, hz, hz2, c_Enc])
theorem walk_KeysOneToOne {D M n : Nat} {vs : List V} {args : Array Value} {W : World} (hS : ShpAll Tryd.prog (D + 64) M n [24, 25, 28] vs) (hA : AR (top W) W vs args.toList) : Calls Tryd.prog 6 args W fun e W' => e = .returned (.bool true) ∧ Go.RowKit.Below W.heap.size W W' := by
  match vs, hS with
  | [v0, v1, v2], ⟨s0, s1, s2, _⟩ =>
    obtain ⟨cols, K, c1, c2, -⟩ := in_schema s0
    obtain ⟨row, r1, r2, -⟩ := in_row s1
    obtain ⟨b, k1, k2, k3⟩ := in_b8 s2
    refine whole fit T_KeysOneToOne_ok (fn := Tryd.f6) (by kernel_rfl) (by kernel_rfl) ?_ hA
    show k_KeysOneToOne [v0, v1, v2] [] = _
    simp (disch := omega) [k_KeysOneToOne, c1, r1, k1, k2]

end Go.Proofs.YtiaihiccaoibgaaDoor.B
