import Derived.Test.YtmoegiibdaomlaaFs3
set_option linter.unusedSimpArgs false
set_option linter.unusedVariables false
set_option linter.unusedSectionVars false
set_option maxRecDepth 20000
set_option maxHeartbeats 1000000
namespace Go.Proofs.Ytmoegiibdaomlaa.B
open Go Go.Ab
/-! all frames of a list, one behind the other -/
theorem ofFrW_of {k : Int} {v : V} {l : List Int} (h : ofInts .u8 v = some l) (hl : l.length < 140737488355328) : ofFrW (frW (k, v)) = some (k, v) := by simp [ofFrW, frW, h, hl]
theorem ofFrs_flat {L : List (Int × V)} (h : ∀ r ∈ L, ofFrW (frW r) = some r) : ofFrs (.lst .frozen (flatV frW L) L.length) = some L := by
  show ofRecs ofFrW 2 L.length (flatV frW L) = some L
  induction L with
  | nil => rfl
  | cons a L ih =>
    have hf := frW_len a
    rw [List.length_cons, flatV_cons]
    unfold ofRecs
    rw [List.take_append_of_le_length (by omega), List.take_of_length_le (by omega), h a (by simp), List.drop_append_of_le_length (by omega), List.drop_of_length_le (by omega), List.nil_append, ih fun r hr => h r (by simp [hr])]
    rfl
def upW (r : Int × List Int) : Int × V := (r.1, .lst .frozen (ints .u8 r.2) r.2.length)
theorem up_val (r : Int × List Int) : valW (upW r) = r := by simp [valW, upW, ofInts]
theorem scanV_dec (L : List (Int × List Int)) (hL : ∀ r ∈ L, r.2.length < 140737488355328) : ∃ w G, demote (scanV L) = w ∧ ntup w = some w ∧ demote w = w ∧ ofFrs w = some G ∧ G.map valW = L := by
  by_cases h : L = []
  · subst h; exact ⟨.nils, [], rfl, rfl, rfl, rfl, rfl⟩
  · have hs : scanV L = .lst (.fresh 2 false) (flatV frV L) L.length := if_neg h
    rw [hs]
    have e : flatV frV L = flatV frW (L.map upW) := by simp [flatV, List.flatMap_map]; rfl
    have hd := ofFrs_flat (L := L.map upW) (fun r hr => by
      obtain ⟨x, hx, rfl⟩ := List.mem_map.1 hr
      exact ofFrW_of (l := x.2) (by simp [ofInts]) (hL x hx))
    rw [List.length_map] at hd
    refine ⟨.lst .frozen (flatV frV L) L.length, L.map upW, rfl, rfl, rfl, by rw [e]; exact hd, ?_⟩
    rw [List.map_map]
    have : valW ∘ upW = id := funext fun r => up_val r
    rw [this, List.map_id]
def okW (r : Int × V) : Bool := decide (putErr r.1 (valW r).2 = 0)
def ends (K : List (Int × List Int)) : List Int := (List.range (K.length + 1)).map fun j => ((endZ K j : Nat) : Int)
theorem ends_len (K : List (Int × List Int)) : (ends K).length = K.length + 1 := by simp [ends]
theorem ends_nth {K : List (Int × List Int)} {j : Nat} (h : j ≤ K.length) : nth (ends K) j = (endZ K j : Nat) := by
  rw [nth_lt (by rw [ends_len]; omega)]; simp [ends]
theorem ends_snoc (K : List (Int × List Int)) (r : Int × List Int) : ends (K ++ [r]) = ends K ++ [((allZ (K ++ [r])).length : Int)] := by
  unfold ends
  rw [List.length_append, List.length_singleton, List.range_succ, List.map_append]
  congr 1
  · refine List.map_congr_left fun j hj => ?_
    have : j < K.length + 1 := List.mem_range.1 hj
    unfold endZ
    rw [List.take_append_of_le_length (by omega)]
  · have h2 := endZ_all (K ++ [r])
    rw [List.length_append, List.length_singleton] at h2
    simp [h2]
theorem ends_nil : ends [] = [0] := rfl
theorem elit1 (c : Int) : listV Try.prog 56 1 [(0, .int .i64 c)] = some ([.int .i64 c], 1) := by simp [listV, fillV, zeros, setCells]
theorem all_len {K : List (Int × List Int)} (h : Good K) : (allZ K).length ≤ 65549 * K.length := by
  induction K with
  | nil => simp [allZ]
  | cons r K ih =>
    have h1 := ih fun x hx => h x (by simp [hx])
    have h2 := (putErr_zero.1 (h r (by simp)).1).2.2
    have e : allZ (r :: K) = frameZ r.1 r.2 ++ allZ K := by simp [allZ]
    rw [e, List.length_append, frameZ_len, List.length_cons]
    omega
noncomputable def k_FrameScans : Ab.Spec := con2 ofFrs (ofInt .i64) fun F c objs => match objs with | [] => bnd F.length 2000000 (if (F.all fun r => b8 (valW r).2 && decide ((valW r).2.length < 2000000)) = true ∧ -9223372036854775808 ≤ c ∧ c < 9223372036854775808 then some (.bool true, none) else none) | _ => none
noncomputable def T_FrameScans : CallF := withF T_Alike 8 k_FrameScans
theorem T_FrameScans_ok : CallOk Try.prog T_FrameScans := con_of (A := annOf [19,20,44,49] [] [] false []) fit T_Alike_ok (fn := Try.f8) (by kernel_rfl) (by kernel_rfl) (by
  intro args objs r h0
  have c_alive : ∀ a o, T_Alike 9 a o = k_alive a o := fun _ _ => rfl
  have c_Copy : ∀ a o, T_Alike 24 a o = k_Copy a o := fun _ _ => rfl
  have c_fPut : ∀ a o, T_Alike 12 a o = k_fPut a o := fun _ _ => rfl
  have c_Cat : ∀ a o, T_Alike 25 a o = k_Cat a o := fun _ _ => rfl
  have c_Piece : ∀ a o, T_Alike 26 a o = k_Piece a o := fun _ _ => rfl
  have c_Scan : ∀ a o, T_Alike 19 a o = k_Scan a o := fun _ _ => rfl
  have c_Alike : ∀ a o, T_Alike 21 a o = k_Alike a o := fun _ _ => rfl
  obtain ⟨v, _, F, c, rfl, ha, hb, hR⟩ := con2_inv h0
  obtain rfl := ofInt_inv hb
  split at hR
  case h_2 => cases hR
  obtain ⟨hl, hR⟩ := bnd_inv hR
  split at hR
  case isFalse => cases hR
  rename_i hcc
  obtain ⟨hall, hc0, hc1⟩ := hcc
  cases hR
  obtain ⟨vd, vn, vi, -⟩ := fs ha
  have hF := ofFrs_ok ha
  have hall' : ∀ r ∈ F, B8 (valW r).2 ∧ (valW r).2.length < 2000000 := fun r hr => by
    have := List.all_eq_true.1 hall r hr
    simp only [Bool.and_eq_true, decide_eq_true_eq] at this
    exact ⟨b8_iff.1 this.1, this.2⟩
  have hgood : ∀ i, Good (((F.take i).filter okW).map valW) := fun i r hr => by
    obtain ⟨x, hx, rfl⟩ := List.mem_map.1 hr
    obtain ⟨h1, h2⟩ := List.mem_filter.1 hx
    exact ⟨of_decide_eq_true h2, (hall' x (List.mem_of_mem_take h1)).1⟩
  have hKl : ∀ i, ((F.take i).filter okW).length ≤ i := fun i => Nat.le_trans (List.length_filter_le _ _) (by rw [List.length_take]; omega)
  refine .go _ rfl rfl ?_
  simp (disch := omega) [vn, c_alive, k_alive, blit0, elit1, flit0]
  refine .up F.length (fun i s => s.env 1 = .int .i64 c ∧ s.env 21 = v ∧ s.env 22 = .int .i64 F.length ∧ s.env 23 = .int .i64 i ∧ s.low = 0 ∧ ∃ (K : List (Int × V)) (kk : LK), K = (F.take i).filter okW ∧ s.env 5 = .lst kk (ints .u8 (allZ (K.map valW))) (allZ (K.map valW)).length ∧ s.env 6 = .lst (.tok 0 1) (ints .i64 (ends (K.map valW))) (K.length + 1) ∧ s.env 7 = .lst (.tok 1 2) (flatV frW K) K.length ∧ s.toks = [K.length + 1, K.length * 2]) (by simp [ends_nil, allZ, flatV_nil]; exact ⟨rfl, rfl⟩) ?_
  rintro i s hi ⟨g1, g21, g22, g23, hlo, K, kk, hK, g5, g6, g7, ht⟩
  obtain ⟨O, hO⟩ : ∃ O, O = s.objs := ⟨_, rfl⟩
  have ho := hO.symm
  have hKi := hKl i
  have hgd := hgood i
  rw [← hK] at hKi hgd
  have hAl := all_len hgd
  rw [List.length_map] at hAl
  obtain ⟨Ks, hKs⟩ : ∃ Ks, Ks = K.map valW := ⟨_, rfl⟩
  have hKsl : Ks.length = K.length := by rw [hKs, List.length_map]
  rw [← hKs] at hgd hAl g5 g6
  have hel := ends_len Ks
  obtain ⟨A, hA⟩ : ∃ A, A = allZ Ks := ⟨_, rfl⟩
  rw [← hA] at hAl g5
  have hAd : ofInts .u8 (.lst .frozen (ints .u8 A) A.length) = some A := by simp [ofInts]
  have hKf := flatV_len frW_len K
  rcases Nat.lt_or_ge i F.length with h | h
  · have e1 := vi .i64 i (by omega) (by omega)
    rw [Int.toNat_natCast] at e1
    have fa := flatV_at frW_len h
    have ff := flatV_fit frW_len h
    have et := take_nth h
    have hrF := hF _ (nth_mem h)
    have hrA := hall' _ (nth_mem h)
    obtain ⟨r, hre⟩ : ∃ r, r = nth F i := ⟨_, rfl⟩
    rw [← hre] at fa et hrF hrA
    have fr : frW r = [.int .i64 r.1, r.2] := rfl
    rw [fr] at fa
    obtain ⟨rd, -, -, -, rdef, rcells, rone, rnr⟩ := bs hrF.1
    have hrd := hrF.1
    obtain ⟨L, hL⟩ : ∃ L, L = (valW r).2 := ⟨_, rfl⟩
    rw [← hL] at hrd hrA
    have hLd : ofInts .u8 (.lst .frozen (ints .u8 L) L.length) = some L := by simp [ofInts]
    have hfd : ofInts .u8 (.lst .frozen (ints .u8 (frameZ r.1 L)) (L.length + 13)) = some (frameZ r.1 L) := by simp [ofInts, frameZ_len]
    have hfl := frameZ_len r.1 L
    have hw : IntKind.i64.wrap ((i : Int) + 1) = (i : Int) + 1 := wrap_small (by omega) (by omega)
    have flr := flit1 r.1 r.2 rdef rcells
    by_cases hp : putErr r.1 L = 0
    · have hok : okW r = true := by unfold okW; rw [← hL]; exact decide_eq_true hp
      have hK2 : (F.take (i + 1)).filter okW = K ++ [r] := by rw [et, List.filter_append, ← hK]; simp [hok]
      have hlen := (putErr_zero.1 hp).2.2
      simp -implicitDefEqProofs (disch := omega) [g1, g21, g22, g23, g5, g6, g7, ht, hlo, ho, e1, fa, ff, setCells, getObj_last, set_last, rd, rdef, rcells, rone, c_Copy, k_Copy, hrd, hLd, c_fPut, k_fPut, hp, hfd, hAd, c_Cat, k_Cat, hfl, flr, hw, hel, hKsl, hKf, elit1]
      have em : (K ++ [r]).map valW = Ks ++ [(r.1, L)] := by rw [List.map_append, ← hKs, hL]; rfl
      have ea : allZ (Ks ++ [(r.1, L)]) = A ++ frameZ r.1 L := by rw [allZ_app, allZ_one, ← hA]
      have eq : ((A ++ frameZ r.1 L).length : Int) = A.length + (L.length + 13) := by simp [hfl]
      have ef : flatV frW K ++ [.int .i64 r.1, r.2] = flatV frW (K ++ [r]) := flatV_snoc (f := frW) (a := r)
      rw [hK2, em, ends_snoc, ea, eq, ef]
      exact ⟨h, ⟨rfl, by simp [hfl]⟩, ⟨rfl, by simp⟩, ⟨rfl, by simp⟩, by simp, by simp; omega⟩
    · have hok : okW r = false := by unfold okW; rw [← hL]; exact decide_eq_false hp
      have hK2 : (F.take (i + 1)).filter okW = K := by rw [et, List.filter_append, ← hK]; simp [hok]
      have hpe : (putErr r.1 L != 0) = true := by simpa using hp
      simp -implicitDefEqProofs (disch := omega) [g1, g21, g22, g23, g5, g6, g7, ht, hlo, ho, e1, fa, ff, setCells, getObj_last, set_last, rd, rdef, rcells, rone, c_Copy, k_Copy, hrd, hLd, c_fPut, k_fPut, hp, hpe, hw]
      rw [hK2, ← hKs, ← hA]
      exact ⟨h, ⟨rfl, rfl⟩, ⟨rfl, rfl⟩, ⟨rfl, rfl⟩, rfl, rfl⟩
  · obtain rfl : i = F.length := by omega
    have hKok : ∀ r ∈ K, ofFrW (frW r) = some r := fun r hr => by
      rw [hK] at hr
      have hm := (List.mem_filter.1 hr).1
      rw [List.take_length] at hm
      have := hF r hm
      exact ofFrW_of this.1 this.2
    by_cases hcn : c < 0
    · obtain ⟨C, hC⟩ : ∃ C, C = A.length := ⟨_, rfl⟩
      have hCA : C ≤ A.length := by omega
      have hCi : (A.length : Int) = C := by omega
      simp -implicitDefEqProofs (disch := omega) [g1, g21, g22, g23, g5, g6, g7, ht, hlo, ho, hcn]
      refine .up K.length (fun n s => s.env 1 = .int .i64 C ∧ s.env 5 = .lst kk (ints .u8 A) A.length ∧ s.env 6 = .lst (.tok 0 1) (ints .i64 (ends Ks)) (K.length + 1) ∧ s.env 7 = .lst (.tok 1 2) (flatV frW K) K.length ∧ s.env 12 = .int .i64 n ∧ s.toks = [K.length + 1, K.length * 2] ∧ s.low = 0 ∧ endZ Ks n ≤ C) (by simp [hC, g1, g5, g6, g7, ht, hlo, endZ, allZ]) ?_
      rintro n s hnK ⟨g1, g5, g6, g7, g12, ht, hlo, hen⟩
      obtain ⟨O2, hO2⟩ : ∃ O, O = s.objs := ⟨_, rfl⟩
      have ho2 := hO2.symm
      have hb0 : (0 : Int) ≤ (n : Int) + 1 := by omega
      have hb1 : (n : Int) < (K.length : Int) + 1 := by omega
      have en0 := ints_nth (k := .i64) (l := ends Ks) (i := n) (by omega)
      rw [ends_nth (by omega)] at en0
      have en := of_get en0
      rcases Nat.lt_or_ge n K.length with h2 | h2
      · have en2 := ints_nth (k := .i64) (l := ends Ks) (i := n + 1) (by omega)
        rw [ends_nth (by omega)] at en2
        have en3 := of_get en2
        have hw1 : IntKind.i64.wrap ((n : Int) + 1) = (n : Int) + 1 := wrap_small (by omega) (by omega)
        by_cases hnx : endZ Ks (n + 1) ≤ C
        · have hnx' : ((endZ Ks (n + 1) : Nat) : Int) ≤ C := by omega
          simp -implicitDefEqProofs (disch := omega) [g1, g5, g6, g7, g12, ht, hlo, ho2, h2, hw1, en2, en3, hnx', hnx, hb0, hb1]
        have hnx' : ¬ ((endZ Ks (n + 1) : Nat) : Int) ≤ C := by omega
        have hx : n = Ks.length ∨ C < endZ Ks (n + 1) := .inr (by omega)
        have hsc := scan_all hgd (n := n) (c := C) (by omega) (by rw [← hA]; exact hCA) hen hx
        rw [← hA] at hsc
        obtain ⟨T, hT⟩ : ∃ T, T = A.take C := ⟨_, rfl⟩
        rw [← hT] at hsc
        have hpz : pieceZ A 0 (C : Int) = T := by rw [hT]; simp [pieceZ]
        have hTl : T.length ≤ A.length := by rw [hT, List.length_take]; omega
        have hT8 : b8 T = true := b8_iff.2 (by rw [hT, hA]; exact (allZ_B8 hgd).take C)
        have hTd : ofInts .u8 (.lst .frozen (ints .u8 T) T.length) = some T := by simp [ofInts]
        obtain ⟨w, G, y1, y2, y3, y4, y5⟩ := scanV_dec (Ks.take n) (fun r hr => by
          have := (putErr_zero.1 (hgd r (List.mem_of_mem_take hr)).1).2.2
          omega)
        have hGl : G.length ≤ K.length := by
          have q := congrArg List.length y5
          rw [List.length_map, List.length_take] at q
          omega
        have hcut : ∀ objs, cutV Try.prog 40 objs (.lst (.tok 1 2) (flatV frW K) K.length) none (some (.int .i64 n)) none = some (.lst .frozen (flatV frW (K.take n)) n) := fun objs => by
          simp [cutV, sliceV, boundV, flatV_take frW_len, hnK]
        have hkd : ofFrs (.lst .frozen (flatV frW (K.take n)) n) = some (K.take n) := by
          have q := ofFrs_flat (L := K.take n) (fun r hr => hKok r (List.mem_of_mem_take hr))
          rwa [List.length_take, Nat.min_eq_left hnK] at q
        have hal : G.map valW = (K.take n).map valW := by rw [y5, hKs, List.map_take]
        by_cases hec : endZ Ks n = C
        · rw [if_pos hec] at hsc
          simp -implicitDefEqProofs (disch := omega) [h2, hw1, en2, en3, hnx', g1, g5, g6, g7, g12, ht, hlo, ho2, hAd, c_Piece, k_Piece, hpz, hTd, c_Scan, k_Scan, hT8, hsc, y1, y2, y3, y4, hcut, hkd, c_Alike, k_Alike, hal, en0, en, hb0, hb1, hec]
        · rw [if_neg hec] at hsc
          simp -implicitDefEqProofs (disch := omega) [h2, hw1, en2, en3, hnx', g1, g5, g6, g7, g12, ht, hlo, ho2, hAd, c_Piece, k_Piece, hpz, hTd, c_Scan, k_Scan, hT8, hsc, y1, y2, y3, y4, hcut, hkd, c_Alike, k_Alike, hal, en0, en, hb0, hb1, hec]
      · have hx : n = Ks.length ∨ C < endZ Ks (n + 1) := .inl (by omega)
        have hsc := scan_all hgd (n := n) (c := C) (by omega) (by rw [← hA]; exact hCA) hen hx
        rw [← hA] at hsc
        obtain ⟨T, hT⟩ : ∃ T, T = A.take C := ⟨_, rfl⟩
        rw [← hT] at hsc
        have hpz : pieceZ A 0 (C : Int) = T := by rw [hT]; simp [pieceZ]
        have hTl : T.length ≤ A.length := by rw [hT, List.length_take]; omega
        have hT8 : b8 T = true := b8_iff.2 (by rw [hT, hA]; exact (allZ_B8 hgd).take C)
        have hTd : ofInts .u8 (.lst .frozen (ints .u8 T) T.length) = some T := by simp [ofInts]
        obtain ⟨w, G, y1, y2, y3, y4, y5⟩ := scanV_dec (Ks.take n) (fun r hr => by
          have := (putErr_zero.1 (hgd r (List.mem_of_mem_take hr)).1).2.2
          omega)
        have hGl : G.length ≤ K.length := by
          have q := congrArg List.length y5
          rw [List.length_map, List.length_take] at q
          omega
        have hcut : ∀ objs, cutV Try.prog 40 objs (.lst (.tok 1 2) (flatV frW K) K.length) none (some (.int .i64 n)) none = some (.lst .frozen (flatV frW (K.take n)) n) := fun objs => by
          simp [cutV, sliceV, boundV, flatV_take frW_len, hnK]
        have hkd : ofFrs (.lst .frozen (flatV frW (K.take n)) n) = some (K.take n) := by
          have q := ofFrs_flat (L := K.take n) (fun r hr => hKok r (List.mem_of_mem_take hr))
          rwa [List.length_take, Nat.min_eq_left hnK] at q
        have hal : G.map valW = (K.take n).map valW := by rw [y5, hKs, List.map_take]
        by_cases hec : endZ Ks n = C
        · rw [if_pos hec] at hsc
          simp -implicitDefEqProofs (disch := omega) [ g1, g5, g6, g7, g12, ht, hlo, ho2, hAd, c_Piece, k_Piece, hpz, hTd, c_Scan, k_Scan, hT8, hsc, y1, y2, y3, y4, hcut, hkd, c_Alike, k_Alike, hal, en0, en, hb0, hb1, hec]
        · rw [if_neg hec] at hsc
          simp -implicitDefEqProofs (disch := omega) [ g1, g5, g6, g7, g12, ht, hlo, ho2, hAd, c_Piece, k_Piece, hpz, hTd, c_Scan, k_Scan, hT8, hsc, y1, y2, y3, y4, hcut, hkd, c_Alike, k_Alike, hal, en0, en, hb0, hb1, hec]
    by_cases hcb : (A.length : Int) < c
    · obtain ⟨C, hC⟩ : ∃ C, C = A.length := ⟨_, rfl⟩
      have hCA : C ≤ A.length := by omega
      simp -implicitDefEqProofs (disch := omega) [g1, g21, g22, g23, g5, g6, g7, ht, hlo, ho, hcn, hcb]
      refine .up K.length (fun n s => s.env 1 = .int .i64 C ∧ s.env 5 = .lst kk (ints .u8 A) A.length ∧ s.env 6 = .lst (.tok 0 1) (ints .i64 (ends Ks)) (K.length + 1) ∧ s.env 7 = .lst (.tok 1 2) (flatV frW K) K.length ∧ s.env 12 = .int .i64 n ∧ s.toks = [K.length + 1, K.length * 2] ∧ s.low = 0 ∧ endZ Ks n ≤ C) (by simp [hC, g1, g5, g6, g7, ht, hlo, endZ, allZ]) ?_
      rintro n s hnK ⟨g1, g5, g6, g7, g12, ht, hlo, hen⟩
      obtain ⟨O2, hO2⟩ : ∃ O, O = s.objs := ⟨_, rfl⟩
      have ho2 := hO2.symm
      have hb0 : (0 : Int) ≤ (n : Int) + 1 := by omega
      have hb1 : (n : Int) < (K.length : Int) + 1 := by omega
      have en0 := ints_nth (k := .i64) (l := ends Ks) (i := n) (by omega)
      rw [ends_nth (by omega)] at en0
      have en := of_get en0
      rcases Nat.lt_or_ge n K.length with h2 | h2
      · have en2 := ints_nth (k := .i64) (l := ends Ks) (i := n + 1) (by omega)
        rw [ends_nth (by omega)] at en2
        have en3 := of_get en2
        have hw1 : IntKind.i64.wrap ((n : Int) + 1) = (n : Int) + 1 := wrap_small (by omega) (by omega)
        by_cases hnx : endZ Ks (n + 1) ≤ C
        · have hnx' : ((endZ Ks (n + 1) : Nat) : Int) ≤ C := by omega
          simp -implicitDefEqProofs (disch := omega) [g1, g5, g6, g7, g12, ht, hlo, ho2, h2, hw1, en2, en3, hnx', hnx, hb0, hb1]
        have hnx' : ¬ ((endZ Ks (n + 1) : Nat) : Int) ≤ C := by omega
        have hx : n = Ks.length ∨ C < endZ Ks (n + 1) := .inr (by omega)
        have hsc := scan_all hgd (n := n) (c := C) (by omega) (by rw [← hA]; exact hCA) hen hx
        rw [← hA] at hsc
        obtain ⟨T, hT⟩ : ∃ T, T = A.take C := ⟨_, rfl⟩
        rw [← hT] at hsc
        have hpz : pieceZ A 0 (C : Int) = T := by rw [hT]; simp [pieceZ]
        have hTl : T.length ≤ A.length := by rw [hT, List.length_take]; omega
        have hT8 : b8 T = true := b8_iff.2 (by rw [hT, hA]; exact (allZ_B8 hgd).take C)
        have hTd : ofInts .u8 (.lst .frozen (ints .u8 T) T.length) = some T := by simp [ofInts]
        obtain ⟨w, G, y1, y2, y3, y4, y5⟩ := scanV_dec (Ks.take n) (fun r hr => by
          have := (putErr_zero.1 (hgd r (List.mem_of_mem_take hr)).1).2.2
          omega)
        have hGl : G.length ≤ K.length := by
          have q := congrArg List.length y5
          rw [List.length_map, List.length_take] at q
          omega
        have hcut : ∀ objs, cutV Try.prog 40 objs (.lst (.tok 1 2) (flatV frW K) K.length) none (some (.int .i64 n)) none = some (.lst .frozen (flatV frW (K.take n)) n) := fun objs => by
          simp [cutV, sliceV, boundV, flatV_take frW_len, hnK]
        have hkd : ofFrs (.lst .frozen (flatV frW (K.take n)) n) = some (K.take n) := by
          have q := ofFrs_flat (L := K.take n) (fun r hr => hKok r (List.mem_of_mem_take hr))
          rwa [List.length_take, Nat.min_eq_left hnK] at q
        have hal : G.map valW = (K.take n).map valW := by rw [y5, hKs, List.map_take]
        by_cases hec : endZ Ks n = C
        · rw [if_pos hec] at hsc
          simp -implicitDefEqProofs (disch := omega) [h2, hw1, en2, en3, hnx', g1, g5, g6, g7, g12, ht, hlo, ho2, hAd, c_Piece, k_Piece, hpz, hTd, c_Scan, k_Scan, hT8, hsc, y1, y2, y3, y4, hcut, hkd, c_Alike, k_Alike, hal, en0, en, hb0, hb1, hec]
        · rw [if_neg hec] at hsc
          simp -implicitDefEqProofs (disch := omega) [h2, hw1, en2, en3, hnx', g1, g5, g6, g7, g12, ht, hlo, ho2, hAd, c_Piece, k_Piece, hpz, hTd, c_Scan, k_Scan, hT8, hsc, y1, y2, y3, y4, hcut, hkd, c_Alike, k_Alike, hal, en0, en, hb0, hb1, hec]
      · have hx : n = Ks.length ∨ C < endZ Ks (n + 1) := .inl (by omega)
        have hsc := scan_all hgd (n := n) (c := C) (by omega) (by rw [← hA]; exact hCA) hen hx
        rw [← hA] at hsc
        obtain ⟨T, hT⟩ : ∃ T, T = A.take C := ⟨_, rfl⟩
        rw [← hT] at hsc
        have hpz : pieceZ A 0 (C : Int) = T := by rw [hT]; simp [pieceZ]
        have hTl : T.length ≤ A.length := by rw [hT, List.length_take]; omega
        have hT8 : b8 T = true := b8_iff.2 (by rw [hT, hA]; exact (allZ_B8 hgd).take C)
        have hTd : ofInts .u8 (.lst .frozen (ints .u8 T) T.length) = some T := by simp [ofInts]
        obtain ⟨w, G, y1, y2, y3, y4, y5⟩ := scanV_dec (Ks.take n) (fun r hr => by
          have := (putErr_zero.1 (hgd r (List.mem_of_mem_take hr)).1).2.2
          omega)
        have hGl : G.length ≤ K.length := by
          have q := congrArg List.length y5
          rw [List.length_map, List.length_take] at q
          omega
        have hcut : ∀ objs, cutV Try.prog 40 objs (.lst (.tok 1 2) (flatV frW K) K.length) none (some (.int .i64 n)) none = some (.lst .frozen (flatV frW (K.take n)) n) := fun objs => by
          simp [cutV, sliceV, boundV, flatV_take frW_len, hnK]
        have hkd : ofFrs (.lst .frozen (flatV frW (K.take n)) n) = some (K.take n) := by
          have q := ofFrs_flat (L := K.take n) (fun r hr => hKok r (List.mem_of_mem_take hr))
          rwa [List.length_take, Nat.min_eq_left hnK] at q
        have hal : G.map valW = (K.take n).map valW := by rw [y5, hKs, List.map_take]
        by_cases hec : endZ Ks n = C
        · rw [if_pos hec] at hsc
          simp -implicitDefEqProofs (disch := omega) [ g1, g5, g6, g7, g12, ht, hlo, ho2, hAd, c_Piece, k_Piece, hpz, hTd, c_Scan, k_Scan, hT8, hsc, y1, y2, y3, y4, hcut, hkd, c_Alike, k_Alike, hal, en0, en, hb0, hb1, hec]
        · rw [if_neg hec] at hsc
          simp -implicitDefEqProofs (disch := omega) [ g1, g5, g6, g7, g12, ht, hlo, ho2, hAd, c_Piece, k_Piece, hpz, hTd, c_Scan, k_Scan, hT8, hsc, y1, y2, y3, y4, hcut, hkd, c_Alike, k_Alike, hal, en0, en, hb0, hb1, hec]
    obtain ⟨C, rfl⟩ := Int.eq_ofNat_of_zero_le (show 0 ≤ c by omega)
    have hCA : C ≤ A.length := by omega
    simp -implicitDefEqProofs (disch := omega) [g1, g21, g22, g23, g5, g6, g7, ht, hlo, ho, hcn, hcb]
    refine .up K.length (fun n s => s.env 1 = .int .i64 C ∧ s.env 5 = .lst kk (ints .u8 A) A.length ∧ s.env 6 = .lst (.tok 0 1) (ints .i64 (ends Ks)) (K.length + 1) ∧ s.env 7 = .lst (.tok 1 2) (flatV frW K) K.length ∧ s.env 12 = .int .i64 n ∧ s.toks = [K.length + 1, K.length * 2] ∧ s.low = 0 ∧ endZ Ks n ≤ C) (by simp [g1, g5, g6, g7, ht, hlo, endZ, allZ]) ?_
    rintro n s hnK ⟨g1, g5, g6, g7, g12, ht, hlo, hen⟩
    obtain ⟨O2, hO2⟩ : ∃ O, O = s.objs := ⟨_, rfl⟩
    have ho2 := hO2.symm
    have hb0 : (0 : Int) ≤ (n : Int) + 1 := by omega
    have hb1 : (n : Int) < (K.length : Int) + 1 := by omega
    have en0 := ints_nth (k := .i64) (l := ends Ks) (i := n) (by omega)
    rw [ends_nth (by omega)] at en0
    have en := of_get en0
    rcases Nat.lt_or_ge n K.length with h2 | h2
    · have en2 := ints_nth (k := .i64) (l := ends Ks) (i := n + 1) (by omega)
      rw [ends_nth (by omega)] at en2
      have en3 := of_get en2
      have hw1 : IntKind.i64.wrap ((n : Int) + 1) = (n : Int) + 1 := wrap_small (by omega) (by omega)
      by_cases hnx : endZ Ks (n + 1) ≤ C
      · have hnx' : ((endZ Ks (n + 1) : Nat) : Int) ≤ C := by omega
        simp -implicitDefEqProofs (disch := omega) [g1, g5, g6, g7, g12, ht, hlo, ho2, h2, hw1, en2, en3, hnx', hnx, hb0, hb1]
      have hnx' : ¬ ((endZ Ks (n + 1) : Nat) : Int) ≤ C := by omega
      have hx : n = Ks.length ∨ C < endZ Ks (n + 1) := .inr (by omega)
      have hsc := scan_all hgd (n := n) (c := C) (by omega) (by rw [← hA]; exact hCA) hen hx
      rw [← hA] at hsc
      obtain ⟨T, hT⟩ : ∃ T, T = A.take C := ⟨_, rfl⟩
      rw [← hT] at hsc
      have hpz : pieceZ A 0 (C : Int) = T := by rw [hT]; simp [pieceZ]
      have hTl : T.length ≤ A.length := by rw [hT, List.length_take]; omega
      have hT8 : b8 T = true := b8_iff.2 (by rw [hT, hA]; exact (allZ_B8 hgd).take C)
      have hTd : ofInts .u8 (.lst .frozen (ints .u8 T) T.length) = some T := by simp [ofInts]
      obtain ⟨w, G, y1, y2, y3, y4, y5⟩ := scanV_dec (Ks.take n) (fun r hr => by
        have := (putErr_zero.1 (hgd r (List.mem_of_mem_take hr)).1).2.2
        omega)
      have hGl : G.length ≤ K.length := by
        have q := congrArg List.length y5
        rw [List.length_map, List.length_take] at q
        omega
      have hcut : ∀ objs, cutV Try.prog 40 objs (.lst (.tok 1 2) (flatV frW K) K.length) none (some (.int .i64 n)) none = some (.lst .frozen (flatV frW (K.take n)) n) := fun objs => by
        simp [cutV, sliceV, boundV, flatV_take frW_len, hnK]
      have hkd : ofFrs (.lst .frozen (flatV frW (K.take n)) n) = some (K.take n) := by
        have q := ofFrs_flat (L := K.take n) (fun r hr => hKok r (List.mem_of_mem_take hr))
        rwa [List.length_take, Nat.min_eq_left hnK] at q
      have hal : G.map valW = (K.take n).map valW := by rw [y5, hKs, List.map_take]
      by_cases hec : endZ Ks n = C
      · rw [if_pos hec] at hsc
        simp -implicitDefEqProofs (disch := omega) [h2, hw1, en2, en3, hnx', g1, g5, g6, g7, g12, ht, hlo, ho2, hAd, c_Piece, k_Piece, hpz, hTd, c_Scan, k_Scan, hT8, hsc, y1, y2, y3, y4, hcut, hkd, c_Alike, k_Alike, hal, en0, en, hb0, hb1, hec]
      · rw [if_neg hec] at hsc
        simp -implicitDefEqProofs (disch := omega) [h2, hw1, en2, en3, hnx', g1, g5, g6, g7, g12, ht, hlo, ho2, hAd, c_Piece, k_Piece, hpz, hTd, c_Scan, k_Scan, hT8, hsc, y1, y2, y3, y4, hcut, hkd, c_Alike, k_Alike, hal, en0, en, hb0, hb1, hec]
    · have hx : n = Ks.length ∨ C < endZ Ks (n + 1) := .inl (by omega)
      have hsc := scan_all hgd (n := n) (c := C) (by omega) (by rw [← hA]; exact hCA) hen hx
      rw [← hA] at hsc
      obtain ⟨T, hT⟩ : ∃ T, T = A.take C := ⟨_, rfl⟩
      rw [← hT] at hsc
      have hpz : pieceZ A 0 (C : Int) = T := by rw [hT]; simp [pieceZ]
      have hTl : T.length ≤ A.length := by rw [hT, List.length_take]; omega
      have hT8 : b8 T = true := b8_iff.2 (by rw [hT, hA]; exact (allZ_B8 hgd).take C)
      have hTd : ofInts .u8 (.lst .frozen (ints .u8 T) T.length) = some T := by simp [ofInts]
      obtain ⟨w, G, y1, y2, y3, y4, y5⟩ := scanV_dec (Ks.take n) (fun r hr => by
        have := (putErr_zero.1 (hgd r (List.mem_of_mem_take hr)).1).2.2
        omega)
      have hGl : G.length ≤ K.length := by
        have q := congrArg List.length y5
        rw [List.length_map, List.length_take] at q
        omega
      have hcut : ∀ objs, cutV Try.prog 40 objs (.lst (.tok 1 2) (flatV frW K) K.length) none (some (.int .i64 n)) none = some (.lst .frozen (flatV frW (K.take n)) n) := fun objs => by
        simp [cutV, sliceV, boundV, flatV_take frW_len, hnK]
      have hkd : ofFrs (.lst .frozen (flatV frW (K.take n)) n) = some (K.take n) := by
        have q := ofFrs_flat (L := K.take n) (fun r hr => hKok r (List.mem_of_mem_take hr))
        rwa [List.length_take, Nat.min_eq_left hnK] at q
      have hal : G.map valW = (K.take n).map valW := by rw [y5, hKs, List.map_take]
      by_cases hec : endZ Ks n = C
      · rw [if_pos hec] at hsc
        simp -implicitDefEqProofs (disch := omega) [ g1, g5, g6, g7, g12, ht, hlo, ho2, hAd, c_Piece, k_Piece, hpz, hTd, c_Scan, k_Scan, hT8, hsc, y1, y2, y3, y4, hcut, hkd, c_Alike, k_Alike, hal, en0, en, hb0, hb1, hec]
      · rw [if_neg hec] at hsc
        simp -implicitDefEqProofs (disch := omega) [ g1, g5, g6, g7, g12, ht, hlo, ho2, hAd, c_Piece, k_Piece, hpz, hTd, c_Scan, k_Scan, hT8, hsc, y1, y2, y3, y4, hcut, hkd, c_Alike, k_Alike, hal, en0, en, hb0, hb1, hec])

end Go.Proofs.Ytmoegiibdaomlaa.B
