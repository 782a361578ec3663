import Derived.Test.YtpfkebjjbhnehaaBlTy
import Derived.Test.YtpfkebjjbhnehaaAb32
import Derived.Test.YtpfkebjjbhnehaaAb41
set_option linter.unusedSimpArgs false
set_option linter.unusedVariables false
set_option linter.unusedSectionVars false
set_option maxRecDepth 20000
set_option maxHeartbeats 1000000
namespace Go.Proofs.Ytpfkebjjbhnehaa.B
open Go Go.Ab
theorem fit : Fit Try.prog := fit_of (by kernel_rfl)
def Tnone : CallF := fun _ _ _ => none
theorem Tnone_ok : CallOk Try.prog Tnone := con_none
/-! slices of bytes that come in -/
theorem bs {v : V} {l : List Int} (h : ofInts .u8 v = some l) : demote v = v ∧ lenV Try.prog 23 v = some (.int .i64 l.length) ∧ (∀ k i, 0 ≤ i → i < (l.length : Int) → indexV Try.prog 23 v (.int k i) = some (.fptr (ints .u8 l) i.toNat)) ∧
    (∀ objs e, srcOf (.slice e) objs 1 v = some (ints .u8 l)) ∧ isDef v = true ∧ cellsOf v = [v] ∧ oneCell v = true ∧ ∀ b, Ab.noref b v = true := by
  have w := ofInts_inv h
  refine ⟨w.dem, w.size u23, fun k i h0 h1 => ?_, fun objs e => w.src (by simp) (by simp) objs e, w.isDef, w.cells, w.one, fun b => w.noref (by simp)⟩
  have := w.idx u23 z5 k i h0 h1
  rwa [Nat.mul_one] at this
theorem bcut {v : V} {l : List Int} (h : ofInts .u8 v = some l) (objs : List AO) (lo hi : Option V) (a b : Nat) (ha : boundV lo 0 = some a) (hb : boundV hi l.length = some b) (hab : a ≤ b) (hl : b ≤ l.length) :
    ∃ w, cutV Try.prog 23 objs v lo hi none = some w ∧ ofInts .u8 w = some ((l.take b).drop a) := by
  obtain ⟨w, h1, h2⟩ := (ofInts_inv h).cut u23 z5 objs lo hi a b ha hb hab hl
  refine ⟨w, h1, ?_⟩
  rw [Nat.mul_one, Nat.mul_one, ints_take, ints_drop] at h2
  exact h2.ofInts (by simp; omega)
theorem blit1 (c : Int) : listV Try.prog 23 1 [(0, .int .u8 c)] = some ([.int .u8 c], 1) := by simp [listV, fillV, zeros, setCells]
theorem blit0 : listV Try.prog 23 0 [] = some ([], 1) := by simp [listV, fillV, zeros]
/-- A row of bytes that is appended to; one that stands in an object. -/
def tokB (l : List Int) : V := .lst (.tok 0 1) (ints .u8 l) l.length
theorem getObj_last {objs : List AO} {cs : List V} {v : Nat} : Ab.getObj (objs ++ [.cells cs v]) objs.length v = some cs := by simp [Ab.getObj]
theorem getObj_last0 {objs : List AO} {cs : List V} {v : Nat} (n : Nat) (h : n = objs.length) : Ab.getObj (objs ++ [.cells cs v]) n v = some cs := by simp [Ab.getObj, h]
theorem set_last {objs : List AO} {a b : AO} : (objs ++ [a]).set objs.length b = objs ++ [b] := by simp
theorem take_last {objs : List AO} {a : AO} : (objs ++ [a]).take objs.length = objs := by simp
theorem getObj_two {objs : List AO} {a : AO} {cs : List V} {v : Nat} : Ab.getObj (objs ++ [a, .cells cs v]) (objs.length + 1) v = some cs := by simp [Ab.getObj]
theorem getObj_one {objs : List AO} {a : AO} {cs : List V} {v : Nat} : Ab.getObj (objs ++ [.cells cs v, a]) objs.length v = some cs := by simp [Ab.getObj]

noncomputable def k_Same : Ab.Spec := con2 (ofInts .u8) (ofInts .u8) fun a b _ => bnd a.length 140737488355328 (some (.bool (decide (a = b)), none))
noncomputable def T_Same : CallF := withF Tnone 25 k_Same
theorem T_Same_ok : CallOk Try.prog T_Same := con_of (A := annOf [] [] [] false []) fit Tnone_ok (fn := Try.f25) (by kernel_rfl) (by kernel_rfl) (by
  intro args objs r h0
  obtain ⟨v, w, a, b, rfl, ha, hb, hR⟩ := con2_inv h0
  obtain ⟨hl, hR⟩ := bnd_inv hR
  cases hR
  obtain ⟨vd, vn, vi, -⟩ := bs ha
  obtain ⟨wd, wn, wi, -⟩ := bs hb
  refine .go _ rfl rfl ?_
  by_cases hn : a.length = b.length
  · simp [vn, wn, hn]
    refine .up a.length (fun i s => s.env 0 = v ∧ s.env 1 = w ∧ s.env 5 = .int .i64 i ∧ s.toks = [] ∧ s.objs = objs ∧ s.low = objs.length ∧ ∀ j, j < i → nth a j = nth b j) (by simp) ?_
    rintro i s hi ⟨h0, h1, h5, ht, ho, hlo, hj⟩
    rcases Nat.lt_or_ge i a.length with h | h
    · by_cases he : nth a i = nth b i
      · have hf : (nth a i != nth b i) = false := by simpa using he
        have hs : ∀ j, j < i + 1 → nth a j = nth b j := fun j hj2 => by
          rcases Nat.lt_or_ge j i with h2 | h2
          · exact hj j h2
          · obtain rfl : j = i := by omega
            exact he
        simp (disch := omega) [h0, h1, h5, ht, ho, hlo, vn, wn, vi, wi, h, ints_nth, hf, wrap_small]
        exact hs
      · have hf : (nth a i != nth b i) = true := by simpa using he
        have hne : a ≠ b := fun q => he (by rw [q])
        simp (disch := omega) [h0, h1, h5, ht, ho, hlo, vn, wn, vi, wi, h, ints_nth, hf, hne]
    · have hab : a = b := ext_nth hn fun j h2 => hj j (by omega)
      have hnl : ¬ i < b.length := by omega
      simp [h0, h1, h5, ht, ho, hlo, vn, wn, hab, hnl]
  · have hf : ((a.length : Int) != (b.length : Int)) = true := by simp only [bne_iff_ne, ne_eq]; omega
    have hne : a ≠ b := fun q => hn (by rw [q])
    simp [vn, wn, hf, hne])

noncomputable def k_Copy : Ab.Spec := con1 (ofInts .u8) fun l _ => bnd l.length 140737488355300 (some (.lst (.fresh 1 true) (ints .u8 l) l.length, none))
noncomputable def T_Copy : CallF := withF T_Same 31 k_Copy
theorem T_Copy_ok : CallOk Try.prog T_Copy := con_of (A := annOf [] [5,18] [] false []) fit T_Same_ok (fn := Try.f31) (by kernel_rfl) (by kernel_rfl) (by
  intro args objs r h0
  obtain ⟨v, l, rfl, ha, hR⟩ := con1_inv h0
  obtain ⟨hl, hR⟩ := bnd_inv hR
  cases hR
  obtain ⟨vd, vn, vi, -⟩ := bs ha
  refine .go _ rfl rfl ?_
  simp [blit0]
  refine .up l.length (fun i s => s.env 0 = v ∧ s.env 3 = .ref objs.length i 0 i 1 ∧ s.env 4 = .int .i64 i ∧ s.toks = [] ∧ s.objs = objs ++ [.cells (ints .u8 (l.take i)) i] ∧ s.low = objs.length) (by simp [ints_nil]) ?_
  rintro i s hi ⟨h0, h3, h4, ht, ho, hlo⟩
  rcases Nat.lt_or_ge i l.length with h | h
  · have e := take_nth h
    simp (disch := omega) [h0, h3, h4, ht, ho, hlo, vn, vi, h, ints_nth, blit1, e, wrap_small, getObj_last, Nat.mod_one]
  · obtain rfl : i = l.length := by omega
    simp [h0, h3, h4, ht, ho, hlo, vn, getObj_last])

noncomputable def k_Cat : Ab.Spec := con2 (ofInts .u8) (ofInts .u8) fun a b _ => bnd (a.length + b.length) 140737488355300 (some (.lst (.fresh 1 false) (ints .u8 (a ++ b)) (a.length + b.length), none))
noncomputable def T_Cat : CallF := withF T_Copy 52 k_Cat
theorem T_Cat_ok : CallOk Try.prog T_Cat := con_of (A := annOf [8] [] [] false []) fit T_Copy_ok (fn := Try.f52) (by kernel_rfl) (by kernel_rfl) (by
  intro args objs r h0
  obtain ⟨v, w, a, b, rfl, ha, hb, hR⟩ := con2_inv h0
  obtain ⟨hl, hR⟩ := bnd_inv hR
  cases hR
  obtain ⟨vd, vn, vi, -⟩ := bs ha
  obtain ⟨wd, wn, wi, -⟩ := bs hb
  refine .go _ rfl rfl ?_
  simp [blit0]
  refine .up a.length (fun i s => s.env 0 = v ∧ s.env 1 = w ∧ s.env 5 = .lst (.tok 0 1) (ints .u8 (a.take i)) i ∧ s.env 6 = .int .i64 i ∧ s.toks = [i] ∧ s.objs = objs ∧ s.low = objs.length) (by simp [ints_nil]) ?_
  rintro i s hi ⟨h0, h1, h5, h6, ht, ho, hlo⟩
  rcases Nat.lt_or_ge i a.length with h | h
  · have e := take_nth h
    have hm : min i a.length = i := by omega
    simp (disch := omega) [h0, h1, h5, h6, ht, ho, hlo, vn, vi, h, ints_nth, blit1, e, wrap_small, Nat.mod_one, hm]
  · obtain rfl : i = a.length := by omega
    simp [h0, h1, h5, h6, ht, ho, hlo, vn]
    refine .up b.length (fun i s => s.env 1 = w ∧ s.env 5 = .lst (.tok 0 1) (ints .u8 (a ++ b.take i)) (a.length + i) ∧ s.env 7 = .int .i64 i ∧ s.toks = [a.length + i] ∧ s.objs = objs ∧ s.low = objs.length) (by simp [h0, h1, h5, h6, ht, ho, hlo]) ?_
    rintro i s hi ⟨h1, h5, h7, ht, ho, hlo⟩
    rcases Nat.lt_or_ge i b.length with h | h
    · have e := take_nth h
      have hm : min i b.length = i := by omega
      simp (disch := omega) [h1, h5, h7, ht, ho, hlo, wn, wi, h, ints_nth, blit1, e, wrap_small, Nat.mod_one, hm, Nat.add_assoc]
    · obtain rfl : i = b.length := by omega
      simp [h1, h5, h7, ht, ho, hlo, wn])

def pieceZ (l : List Int) (lo hi : Int) : List Int := (l.take hi.toNat).drop lo.toNat
theorem pieceZ_len (l : List Int) (lo hi : Int) : (pieceZ l lo hi).length = min hi.toNat l.length - lo.toNat := by simp [pieceZ]
noncomputable def k_Piece : Ab.Spec := con3 (ofInts .u8) (ofInt .i64) (ofInt .i64) fun l lo hi _ => bnd l.length 140737488355300 (if lo < 9223372036854775807 then some (.lst (.fresh 1 false) (ints .u8 (pieceZ l lo hi)) (pieceZ l lo hi).length, none) else none)
noncomputable def T_Piece : CallF := withF T_Cat 45 k_Piece
theorem T_Piece_ok : CallOk Try.prog T_Piece := con_of (A := annOf [9] [] [] false []) fit T_Cat_ok (fn := Try.f45) (by kernel_rfl) (by kernel_rfl) (by
  intro args objs r h0
  obtain ⟨v, _, _, l, lo, hi, rfl, ha, hb, hc, hR⟩ := con3_inv h0
  obtain rfl := ofInt_inv hb
  obtain rfl := ofInt_inv hc
  obtain ⟨hl, hR⟩ := bnd_inv hR
  split at hR
  case isFalse => cases hR
  rename_i hlo9
  cases hR
  obtain ⟨vd, vn, vi, -⟩ := bs ha
  refine .go _ rfl rfl ?_
  simp [blit0]
  refine .stop (M := fun e s => e = .norm ∧ s.env 0 = v ∧ s.env 2 = .int .i64 hi ∧ s.env 1 = .int .i64 (lo.toNat : Int) ∧ s.env 7 = .lst (.tok 0 1) [] 0 ∧ s.toks = [0] ∧ s.objs = objs ∧ s.low = objs.length) ?_ ?_
  · by_cases h : lo < 0
    · have : (max lo 0) = 0 := by omega
      simp [h, At, this]
    · have : max lo 0 = lo := by omega
      simp [h, At, this]
  rintro e s ⟨rfl, h0, h2, h1, h7, ht, ho, hlo⟩
  unfold pieceZ
  obtain ⟨p, hp⟩ : ∃ p, lo.toNat = p := ⟨_, rfl⟩
  rw [hp] at h1 ⊢
  simp [h0, h2, h1, h7, ht, ho, hlo]
  refine .up (l.length - p) (fun i s => s.env 0 = v ∧ s.env 2 = .int .i64 hi ∧ s.env 8 = .int .i64 ((p + i : Nat) : Int) ∧ s.env 7 = .lst (.tok 0 1) (ints .u8 ((l.drop p).take i)) i ∧ s.toks = [i] ∧ s.objs = objs ∧ s.low = objs.length ∧ (i = 0 ∨ ((p + i : Nat) : Int) ≤ hi)) (by simp [h0, h2, h1, h7, ht, ho, hlo, ints_nil]) ?_
  rintro i s hi9 ⟨h0, h2, h8, h7, ht, ho, hlo, hd⟩
  have fin : ¬ (p + i < l.length ∧ ((p + i : Nat) : Int) < hi) → (l.drop p).take i = (l.take hi.toNat).drop p := by
    intro hn
    rw [List.drop_take]
    rcases Nat.lt_or_ge (p + i) l.length with h | h
    · have h3 : hi ≤ ((p + i : Nat) : Int) := by
        rcases Int.lt_or_le ((p + i : Nat) : Int) hi with h3 | h3
        · exact absurd ⟨h, h3⟩ hn
        · exact h3
      rcases hd with rfl | hd
      · have : hi.toNat - p = 0 := by omega
        rw [this]
      · congr 1; omega
    · rw [List.take_of_length_le (by simp; omega), List.take_of_length_le]
      rcases hd with rfl | hd
      · simp; omega
      · simp; omega
  have hm : min i (l.length - p) = i := by omega
  by_cases h : p + i < l.length
  · by_cases h3 : ((p + i : Nat) : Int) < hi
    · have e : (l.drop p).take (i + 1) = (l.drop p).take i ++ [nth l (p + i)] := by rw [take_nth (by simp; omega), nth_drop]
      have h4 : i < l.length - p := by omega
      have h5 : ((p + i : Nat) : Int) + 1 ≤ hi := by omega
      simp only [Int.natCast_add] at h3 h5
      have hI : (p : Int) + (i : Int) < l.length := by omega
      simp (disch := omega) [h0, h2, h8, h7, ht, ho, hlo, vn, vi, h, h3, h4, h5, ints_nth, blit1, e, wrap_small, Nat.mod_one, hm]
      try omega
    · have f := fin (fun q => h3 q.2)
      rw [← f]
      simp only [Int.natCast_add] at h3
      simp (disch := omega) [h0, h2, h8, h7, ht, ho, hlo, vn, hm]
      omega
  · have f := fin (fun q => h q.1)
    rw [← f]
    simp (disch := omega) [h0, h2, h8, h7, ht, ho, hlo, vn, hm]
    omega)

def mkZ (i : Int) : Int := IntKind.u8.wrap (IntKind.i64.wrap (192 + i.tmod 7))
def marks (n : Nat) : List Int := (List.range n).map fun i : Nat => mkZ i
def wide (l : List Int) : List Int := l ++ marks 64
theorem marks_len (n : Nat) : (marks n).length = n := by simp [marks]
theorem wide_len (l : List Int) : (wide l).length = l.length + 64 := by simp [wide, marks_len]
theorem marks_succ (n : Nat) : marks (n + 1) = marks n ++ [mkZ n] := by simp [marks, List.range_succ]
theorem marks_nth {n i : Nat} (h : i < n) : nth (marks n) i = mkZ i := by
  unfold marks
  rw [nth_map (by simpa using h)]
  congr 1
  simp [nth, h]
noncomputable def k_Wide : Ab.Spec := con1 (ofInts .u8) fun l _ => bnd l.length 140737488355000 (some (.lst (.fresh 1 true) (ints .u8 (wide l)) (l.length + 64), none))
noncomputable def T_Wide : CallF := withF T_Piece 10 k_Wide
theorem T_Wide_ok : CallOk Try.prog T_Wide := con_of (A := annOf [] [17] [(6, [.ref])] false []) fit T_Piece_ok (fn := Try.f10) (by kernel_rfl) (by kernel_rfl) (by
  intro args objs r h0
  have c_Copy : ∀ a o, T_Piece 31 a o = k_Copy a o := fun _ _ => rfl
  obtain ⟨v, l, rfl, ha, hR⟩ := con1_inv h0
  obtain ⟨hl, hR⟩ := bnd_inv hR
  cases hR
  obtain ⟨vd, vn, vi, -⟩ := bs ha
  refine .go _ rfl rfl ?_
  simp (disch := omega) [c_Copy, k_Copy, vd, ha]
  refine .up 64 (fun i s => s.env 3 = .ref objs.length i 0 (l.length + i) 1 ∧ s.env 4 = .int .i64 i ∧ s.toks = [] ∧ s.objs = objs ++ [.cells (ints .u8 (l ++ marks i)) i] ∧ s.low = objs.length) (by simp [marks]) ?_
  rintro i s hi ⟨h3, h4, ht, ho, hlo⟩
  rcases Nat.lt_or_ge i 64 with h | h
  · have e := marks_succ i
    have hz : (i : Int) < 64 := by omega
    simp (disch := omega) [h3, h4, ht, ho, hlo, h, hz, blit1, e, wrap_small, getObj_last, Nat.mod_one, marks_len, convV, mkZ, Nat.add_assoc]
  · obtain rfl : i = 64 := by omega
    simp [h3, h4, ht, ho, hlo, getObj_last, marks_len, wide])

noncomputable def k_Intact : Ab.Spec := con2 (ofInts .u8) (ofInts .u8) fun w l _ => bnd (w.length + l.length) 281474976710656 (some (.bool (decide (w = wide l)), none))
noncomputable def T_Intact : CallF := withF T_Wide 12 k_Intact
theorem T_Intact_ok : CallOk Try.prog T_Intact := con_of (A := annOf [] [] [] false []) fit T_Wide_ok (fn := Try.f12) (by kernel_rfl) (by kernel_rfl) (by
  intro args objs r h0
  obtain ⟨v, w, a, b, rfl, ha, hb, hR⟩ := con2_inv h0
  obtain ⟨hl, hR⟩ := bnd_inv hR
  cases hR
  obtain ⟨vd, vn, vi, -⟩ := bs ha
  obtain ⟨wd, wn, wi, -⟩ := bs hb
  refine .go _ rfl rfl ?_
  by_cases hn : a.length = b.length + 64
  · have hw : IntKind.i64.wrap ((b.length : Int) + 64) = (b.length : Int) + 64 := wrap_small (by omega) (by omega)
    have hn2 : ((a.length : Int) != (b.length : Int) + 64) = false := by simp only [bne_eq_false_iff_eq]; omega
    simp [vn, wn, hw, hn2]
    refine .up b.length (fun i s => s.env 0 = v ∧ s.env 1 = w ∧ s.env 5 = .int .i64 i ∧ s.toks = [] ∧ s.objs = objs ∧ s.low = objs.length ∧ ∀ j, j < i → nth a j = nth b j) (by simp) ?_
    rintro i s hi ⟨h0, h1, h5, ht, ho, hlo, hj⟩
    rcases Nat.lt_or_ge i b.length with h | h
    · by_cases he : nth a i = nth b i
      · have hf : (nth a i != nth b i) = false := by simpa using he
        have hs : ∀ j, j < i + 1 → nth a j = nth b j := fun j hj2 => by
          rcases Nat.lt_or_ge j i with h2 | h2
          · exact hj j h2
          · obtain rfl : j = i := by omega
            exact he
        simp (disch := omega) [h0, h1, h5, ht, ho, hlo, vn, wn, vi, wi, h, ints_nth, hf, wrap_small]
        exact hs
      · have hf : (nth a i != nth b i) = true := by simpa using he
        have hne : a ≠ wide b := fun q => he (by rw [q, wide, nth_app_l h])
        simp (disch := omega) [h0, h1, h5, ht, ho, hlo, vn, wn, vi, wi, h, ints_nth, hf, hne]
    · obtain rfl : i = b.length := by omega
      simp [h0, h1, h5, ht, ho, hlo, vn, wn]
      refine .up 64 (fun i s => s.env 0 = v ∧ s.env 1 = w ∧ s.env 6 = .int .i64 i ∧ s.toks = [] ∧ s.objs = objs ∧ s.low = objs.length ∧ ∀ j, j < i → nth a (b.length + j) = mkZ j) (by simp [h0, h1, ht, ho, hlo]) ?_
      rintro i s hi ⟨h0, h1, h6, ht, ho, hlo, hj2⟩
      rcases Nat.lt_or_ge i 64 with h | h
      · have hz : (i : Int) < 64 := by omega
        have hwi : IntKind.i64.wrap ((b.length : Int) + i) = (b.length : Int) + i := wrap_small (by omega) (by omega)
        by_cases he : nth a (b.length + i) = mkZ i
        · have hf : (nth a (b.length + i) != mkZ i) = false := by simpa using he
          have hs : ∀ j, j < i + 1 → nth a (b.length + j) = mkZ j := fun j hj3 => by
            rcases Nat.lt_or_ge j i with h2 | h2
            · exact hj2 j h2
            · obtain rfl : j = i := by omega
              exact he
          unfold mkZ at hf
          simp (disch := omega) [h0, h1, h6, ht, ho, hlo, vn, wn, vi, h, hz, ints_nth, hf, wrap_small, convV, hwi]
          exact hs
        · have hf : (nth a (b.length + i) != mkZ i) = true := by simpa using he
          have hne : a ≠ wide b := fun q => he (by rw [q, wide, nth_app_r (by omega), Nat.add_sub_cancel_left, marks_nth h])
          unfold mkZ at hf
          simp (disch := omega) [h0, h1, h6, ht, ho, hlo, vn, wn, vi, h, hz, ints_nth, hf, wrap_small, convV, hwi, hne]
      · obtain rfl : i = 64 := by omega
        have hab : a = wide b := ext_nth (by rw [hn, wide_len]) fun j h2 => by
          rcases Nat.lt_or_ge j b.length with h3 | h3
          · rw [hj j h3, wide, nth_app_l h3]
          · have := hj2 (j - b.length) (by omega)
            rw [show b.length + (j - b.length) = j by omega] at this
            rw [this, wide, nth_app_r h3, marks_nth (by omega)]
        simp [h0, h1, h6, ht, ho, hlo, hab]
  · have hw : IntKind.i64.wrap ((b.length : Int) + 64) = (b.length : Int) + 64 := wrap_small (by omega) (by omega)
    have hn2 : ((a.length : Int) != (b.length : Int) + 64) = true := by simp only [bne_iff_ne, ne_eq]; omega
    have hne : a ≠ wide b := fun q => hn (by rw [q, wide_len])
    simp [vn, wn, hw, hn2, hne])

/-! what a law is handed -/
def b8 (l : List Int) : Bool := l.all fun c => decide (0 ≤ c) && decide (c < 256)
theorem b8_iff {l : List Int} : b8 l = true ↔ ∀ c ∈ l, 0 ≤ c ∧ c < 256 := by simp [b8]
theorem wf_u8 {l : List Int} (h : ∀ c ∈ l, (Lit.int .u8 c).wf = true) : b8 l = true := b8_iff.2 fun c hc => by
  have := h c hc
  simp [Lit.wf, IntKind.min, IntKind.max] at this
  omega

end Go.Proofs.Ytpfkebjjbhnehaa.B
set_option maxRecDepth 20000
set_option maxHeartbeats 1000000
namespace Go.Proofs.Ytpfkebjjbhnehaa.B
open Go Go.Ab
/-! slices of bytes, told or as objects -/
theorem bsR {objs : List AO} {v : V} {l : List Int} (h : ofIntsR .u8 objs v = some l) : ∃ P : Nat → V, demote v = v ∧ lenV Try.prog 23 v = some (.int .i64 l.length) ∧ (∀ k i, 0 ≤ i → i < (l.length : Int) → indexV Try.prog 23 v (.int k i) = some (P i.toNat)) ∧ ∀ i, i < l.length → loadV Try.prog 5 objs (P i) = some (.int .u8 (nth l i)) := by
  rcases ofIntsR_inv h with h | ⟨id, ver, off, cs, rfl, hg, hrow, -⟩
  · obtain ⟨vd, vn, vi, -⟩ := bs h
    refine ⟨fun i => .fptr (ints .u8 l) i, vd, vn, vi, fun i hi => ?_⟩
    have e := of_get (ints_nth (k := .u8) hi)
    simp [hi, e]
  · refine ⟨fun i => .ptr id ver (off + i), rfl, by simp, fun k i h0 h1 => by simp [h0, h1], fun i hi => ?_⟩
    have e := row_get hrow hi
    simp [hg, e]
noncomputable def k_SameR : Ab.Spec := con2 some some fun v w objs => match ofIntsR .u8 objs v, ofIntsR .u8 objs w with | some a, some b => bnd a.length 140737488355328 (some (.bool (decide (a = b)), none)) | _, _ => none
noncomputable def T_SameR : CallF := withF T_Intact 25 k_SameR
theorem T_SameR_ok : CallOk Try.prog T_SameR := con_of (A := annOf [] [] [] false []) fit T_Intact_ok (fn := Try.f25) (by kernel_rfl) (by kernel_rfl) (by
  intro args objs r h0
  obtain ⟨v, w, _, _, rfl, hv, hw, hR⟩ := con2_inv h0
  cases hv; cases hw
  split at hR
  case h_2 => cases hR
  rename_i a b ha hb
  obtain ⟨hl, hR⟩ := bnd_inv hR
  cases hR
  obtain ⟨pa, vd, vn, vi, vl⟩ := bsR ha
  obtain ⟨pb, wd, wn, wi, wl⟩ := bsR hb
  refine .go _ rfl rfl ?_
  by_cases hn : a.length = b.length
  · simp [vn, wn, hn]
    refine .up a.length (fun i s => s.env 0 = v ∧ s.env 1 = w ∧ s.env 5 = .int .i64 i ∧ s.toks = [] ∧ s.objs = objs ∧ s.low = objs.length ∧ ∀ j, j < i → nth a j = nth b j) (by simp) ?_
    rintro i s hi ⟨h0, h1, h5, ht, ho, hlo, hj⟩
    rcases Nat.lt_or_ge i a.length with h | h
    · by_cases he : nth a i = nth b i
      · have hf : (nth a i != nth b i) = false := by simpa using he
        have hs : ∀ j, j < i + 1 → nth a j = nth b j := fun j hj2 => by
          rcases Nat.lt_or_ge j i with h2 | h2
          · exact hj j h2
          · obtain rfl : j = i := by omega
            exact he
        simp (disch := omega) [h0, h1, h5, ht, ho, hlo, vn, wn, vi, wi, vl, wl, h, hf, wrap_small]
        exact hs
      · have hf : (nth a i != nth b i) = true := by simpa using he
        have hne : a ≠ b := fun q => he (by rw [q])
        simp (disch := omega) [h0, h1, h5, ht, ho, hlo, vn, wn, vi, wi, vl, wl, h, hf, hne]
    · have hab : a = b := ext_nth hn fun j h2 => hj j (by omega)
      have hnl : ¬ i < b.length := by omega
      simp [h0, h1, h5, ht, ho, hlo, vn, wn, hab, hnl]
  · have hf : ((a.length : Int) != (b.length : Int)) = true := by simp only [bne_iff_ne, ne_eq]; omega
    have hne : a ≠ b := fun q => hn (by rw [q])
    simp [vn, wn, hf, hne])
def spF (c : Int) : Int := Go.bits .xor .u8 c 90
noncomputable def k_TurnedR : Ab.Spec := con2 some some fun v w objs => match ofIntsR .u8 objs v, ofIntsR .u8 objs w with | some a, some b => bnd a.length 140737488355328 (some (.bool (decide (a = b.map spF)), none)) | _, _ => none
noncomputable def T_TurnedR : CallF := withF T_SameR 35 k_TurnedR
theorem T_TurnedR_ok : CallOk Try.prog T_TurnedR := con_of (A := annOf [] [] [] false []) fit T_SameR_ok (fn := Try.f35) (by kernel_rfl) (by kernel_rfl) (by
  intro args objs r h0
  obtain ⟨v, w, _, _, rfl, hv, hw, hR⟩ := con2_inv h0
  cases hv; cases hw
  split at hR
  case h_2 => cases hR
  rename_i a b ha hb
  obtain ⟨hl, hR⟩ := bnd_inv hR
  cases hR
  obtain ⟨pa, vd, vn, vi, vl⟩ := bsR ha
  obtain ⟨pb, wd, wn, wi, wl⟩ := bsR hb
  refine .go _ rfl rfl ?_
  by_cases hn : a.length = b.length
  · have hml : a.length = (b.map spF).length := by simp [hn]
    have hnm : ∀ j, j < b.length → nth (b.map spF) j = spF (nth b j) := fun j hj => by
      unfold nth; rw [List.getD_eq_getElem?_getD, List.getD_eq_getElem?_getD, List.getElem?_map, List.getElem?_eq_getElem hj]; rfl
    simp [vn, wn, hn]
    refine .up b.length (fun i s => s.env 0 = v ∧ s.env 1 = w ∧ s.env 5 = .int .i64 i ∧ s.toks = [] ∧ s.objs = objs ∧ s.low = objs.length ∧ ∀ j, j < i → nth a j = spF (nth b j)) (by simp) ?_
    rintro i s hi ⟨h0, h1, h5, ht, ho, hlo, hj⟩
    rcases Nat.lt_or_ge i b.length with h | h
    · by_cases he : nth a i = spF (nth b i)
      · have hf : (nth a i != Go.bits .xor .u8 (nth b i) 90) = false := by simpa [spF] using he
        have hs : ∀ j, j < i + 1 → nth a j = spF (nth b j) := fun j hj2 => by
          rcases Nat.lt_or_ge j i with h2 | h2
          · exact hj j h2
          · obtain rfl : j = i := by omega
            exact he
        simp (disch := omega) [h0, h1, h5, ht, ho, hlo, vn, wn, vi, wi, vl, wl, h, hf, wrap_small]
        exact hs
      · have hf : (nth a i != Go.bits .xor .u8 (nth b i) 90) = true := by simpa [spF] using he
        have hne : a ≠ b.map spF := fun q => he (by rw [q, hnm i h])
        simp (disch := omega) [h0, h1, h5, ht, ho, hlo, vn, wn, vi, wi, vl, wl, h, hf, hne]
    · have hab : a = b.map spF := ext_nth hml fun j h2 => by rw [hj j (by omega), hnm j (by omega)]
      have hnl : ¬ i < b.length := by omega
      simp [h0, h1, h5, ht, ho, hlo, vn, wn, ← hab, hnl]
  · have hf : ((a.length : Int) != (b.length : Int)) = true := by simp only [bne_iff_ne, ne_eq]; omega
    have hne : a ≠ b.map spF := fun q => hn (by rw [q]; simp)
    simp [vn, wn, hf, hne])
noncomputable def k_Spoil : Ab.Spec := con1 some fun v objs => match v with
  | .nils => some (.tup [], none)
  | .ref id ver 0 n 1 => match Ab.getObj objs id ver with
    | some cs => (ofCellsI .u8 cs).bind fun a => bnd a.length 140737488355000 (if n = a.length then some (.tup [], if n = 0 then none else some (objs.set id (.cells (ints .u8 (a.map spF)) ver), id)) else none)
    | _ => none
  | _ => none
noncomputable def T_Spoil : CallF := withF T_TurnedR 13 k_Spoil
theorem T_Spoil_ok : CallOk Try.prog T_Spoil := con_of (A := annOf [] [] [] false []) fit T_TurnedR_ok (fn := Try.f13) (by kernel_rfl) (by kernel_rfl) (by
  intro args objs r h0
  obtain ⟨v, _, rfl, hv, hR⟩ := con1_inv h0
  cases hv
  refine .go _ rfl rfl ?_
  split at hR
  · cases hR
    simp
    refine .up 0 (fun i s => s.env 0 = .nils ∧ s.env 2 = .int .i64 0 ∧ s.toks = [] ∧ s.objs = objs ∧ s.low = objs.length) (by simp) ?_
    rintro i s hi ⟨g0, g2, ht, ho, hlo⟩
    simp (disch := omega) [g0, g2, ht, ho, hlo]
  · rename_i id ver n
    split at hR
    case h_2 => cases hR
    rename_i cs hg
    obtain ⟨a, ecs, hR2⟩ := Option.bind_eq_some_iff.1 hR
    obtain rfl := ofCellsI_inv ecs
    clear hR
    obtain ⟨hl, hR⟩ := bnd_inv hR2
    split at hR
    case isFalse => cases hR
    rename_i hn
    subst hn
    cases hR
    have hid := getObj_lt hg
    simp -implicitDefEqProofs (disch := omega)
    refine .up a.length (fun i s => s.env 0 = .ref id ver 0 a.length 1 ∧ s.env 2 = .int .i64 i ∧ s.toks = [] ∧ s.objs = objs.set id (.cells (ints .u8 (mapP spF a i)) ver) ∧ s.low = if i = 0 then objs.length else id) (by simp [mapP]; exact (set_self hg).symm) ?_
    rintro i s hi ⟨g0, g2, ht, ho, hlo⟩
    have hx := mapP_len spF a i
    have hgs := getObj_set (cs := ints .u8 (mapP spF a i)) (v := ver) hid
    rcases Nat.lt_or_ge i a.length with h | h
    · have e0 := ints_nth (k := .u8) (l := mapP spF a i) (i := i) (by omega)
      have e := of_get e0
      have es := ints_set1 (k := .u8) (l := mapP spF a i) (i := i) (c := Go.bits .xor .u8 (nth (mapP spF a i) i) 90) (by omega)
      have hw : IntKind.i64.wrap ((i : Int) + 1) = (i : Int) + 1 := wrap_small (by omega) (by omega)
      have hs1 : i + 1 ≤ a.length := h
      have ex : (mapP spF a i).set i (Go.bits .xor .u8 (nth (mapP spF a i) i) 90) = mapP spF a (i + 1) := rfl
      rw [ex] at es
      have hlow : (if id < s.low then id else s.low) = id := by
        rw [hlo]
        by_cases z : i = 0
        · rw [if_pos z, if_pos hid]
        · rw [if_neg z, if_neg (by omega)]
      simp -implicitDefEqProofs (disch := omega) [g0, g2, ht, ho, hgs, e0, e, es, hx, hw, hlow, h, hs1]
    · obtain rfl : i = a.length := by omega
      have hm := mapP_all spF a
      rw [hm] at ho
      have htk : (objs.set id (AO.cells (ints .u8 (a.map spF)) ver)).take objs.length = objs.set id (AO.cells (ints .u8 (a.map spF)) ver) := List.take_of_length_le (by simp)
      by_cases z : a.length = 0
      · have hlo' : s.low = objs.length := by rw [hlo, if_pos z]
        simp -implicitDefEqProofs (disch := omega) [g0, g2, ht, ho, hlo', htk, z]
        exact List.eq_nil_of_length_eq_zero z
      · have hlo' : s.low = id := by rw [hlo, if_neg z]
        simp -implicitDefEqProofs (disch := omega) [g0, g2, ht, ho, hlo', htk, hid, z]
        exact fun q => z (by rw [q]; rfl)
  · cases hR)

end Go.Proofs.Ytpfkebjjbhnehaa.B
set_option maxRecDepth 20000
set_option maxHeartbeats 1000000
namespace Go.Proofs.Ytpfkebjjbhnehaa.B
open Go Go.Ab
noncomputable def k_Apart : Ab.Spec := con3 some some some fun v w u objs => match v with
  | .nils => match ofIntsR .u8 objs w, ofIntsR .u8 objs u with | some b, some c => if b = [] ∧ c = [] then some (.bool true, none) else none | _, _ => none
  | .ref id ver 0 n 1 => match Ab.getObj objs id ver with
    | some cs => (ofCellsI .u8 cs).bind fun a => bnd a.length 140737488354000 (if n = a.length ∧ ofIntsR .u8 objs w = some a ∧ ofIntsR .u8 objs u = some a ∧ ofIntsR .u8 (objs.set id (.cells (ints .u8 (a.map spF)) ver)) w = some a ∧ ofIntsR .u8 (objs.set id (.cells (ints .u8 (a.map spF)) ver)) u = some a ∧ (n = 0 ∨ clean objs.length (objs.set id (.cells (ints .u8 (a.map spF)) ver)) = true)
      then some (.bool true, if n = 0 then none else some (objs.set id (.cells (ints .u8 (a.map spF)) ver), id)) else none)
    | _ => none
  | _ => none
noncomputable def T_Apart : CallF := withF T_Spoil 22 k_Apart
theorem T_Apart_ok : CallOk Try.prog T_Apart := con_ofW (A := annOf [] [] [] false [13]) fit T_Spoil_ok (fn := Try.f22) (by kernel_rfl) (by kernel_rfl) (by
  intro args objs r h0
  have c_SameR : ∀ a o, T_Spoil 25 a o = k_SameR a o := fun _ _ => rfl
  have c_TurnedR : ∀ a o, T_Spoil 35 a o = k_TurnedR a o := fun _ _ => rfl
  have c_Spoil : ∀ a o, T_Spoil 13 a o = k_Spoil a o := fun _ _ => rfl
  obtain ⟨v, w, u, _, _, _, rfl, hv, hw, hu, hR⟩ := con3_inv h0
  cases hv; cases hw; cases hu
  refine .go _ rfl rfl ?_
  split at hR
  · split at hR
    case h_2 => cases hR
    rename_i b c hb hc
    split at hR
    case isFalse => cases hR
    rename_i e
    obtain ⟨rfl, rfl⟩ := e
    cases hR
    have hn : ofIntsR .u8 objs V.nils = some [] := rfl
    obtain ⟨pb, wd, wn, -⟩ := bsR hb
    obtain ⟨pc, ud, un, -⟩ := bsR hc
    refine .thenT ?_
    simp
    refine .thenT ?_
    simp -implicitDefEqProofs (disch := omega) [wd, ud, c_SameR, k_SameR, hn, hb, hc]
    refine .thenT ?_
    simp -implicitDefEqProofs (disch := omega) [c_Spoil, k_Spoil]
    refine .thenT ?_
    simp -implicitDefEqProofs (disch := omega)
    refine .then (.thenT ?_)
    simp -implicitDefEqProofs (disch := omega)
    refine .cut (grow_block (N := 70) (n := 0) (X := fun _ => True) (LB := [7, 30, 29, 28, 27, 26]) (by omega) (by omega) (.inl ⟨rfl, rfl⟩) rfl (fun _ _ _ _ _ _ => trivial) (fun _ _ _ _ => trivial) (body_byte u23 (by kernel_rfl) v5 u3 u5 (by omega) (by decide)) (by simp) (by decide) (by decide)) ?_
    show ToW _ _ _ _ _ _ _ _
    refine .of ?_
    simp -implicitDefEqProofs (disch := omega) [grownEnv, wd, ud, un, c_TurnedR, k_TurnedR, c_SameR, k_SameR, hn, hb, hc, wrap_small]
  · rename_i id ver n
    split at hR
    case h_2 => cases hR
    rename_i cs hg
    obtain ⟨a, ecs, hR2⟩ := Option.bind_eq_some_iff.1 hR
    obtain rfl := ofCellsI_inv ecs
    clear hR
    obtain ⟨hl, hR⟩ := bnd_inv hR2
    split at hR
    case isFalse => cases hR
    rename_i e
    obtain ⟨rfl, hb, hc, hb2, hc2, hcl⟩ := e
    have hid := getObj_lt hg
    have hn := ofIntsR_ref hg (n := a.length) rfl
    obtain ⟨pb, wd, wn, -⟩ := bsR hb
    obtain ⟨pc, ud, un, -⟩ := bsR hc
    have hl2 : a.length < 140737488355000 := by omega
    refine .thenT ?_
    simp
    refine .thenT ?_
    simp -implicitDefEqProofs (disch := omega) [wd, ud, c_SameR, k_SameR, hn, hb, hc]
    refine .thenT ?_
    by_cases hz : a.length = 0
    · rw [if_pos hz] at hR
      cases hR
      obtain rfl := List.eq_nil_of_length_eq_zero hz
      simp -implicitDefEqProofs (disch := omega) [c_Spoil, k_Spoil, hg, ofCellsI_ints]
      refine .thenT ?_
      simp -implicitDefEqProofs (disch := omega)
      refine .then (.thenT ?_)
      simp -implicitDefEqProofs (disch := omega)
      refine .cut (grow_block (N := 70) (n := 0) (X := fun _ => True) (LB := [7, 30, 29, 28, 27, 26]) (by omega) (by omega) (.inr ⟨id, ver, _, rfl, hg, by simp⟩) rfl (fun _ _ _ _ _ _ => trivial) (fun _ _ _ _ => trivial) (body_byte u23 (by kernel_rfl) v5 u3 u5 (by omega) (by decide)) (by simp) (by decide) (by decide)) ?_
      show ToW _ _ _ _ _ _ _ _
      refine .of ?_
      simp at hn
      simp -implicitDefEqProofs (disch := omega) [grownEnv, wd, ud, un, c_TurnedR, k_TurnedR, c_SameR, k_SameR, hn, hb, hc, wrap_small]
    · rw [if_neg hz] at hR
      cases hR
      have hcl := hcl.resolve_left hz
      have hgs := getObj_set (cs := ints .u8 (a.map spF)) (v := ver) hid
      have hn2 := ofIntsR_ref hgs (n := a.length) (by simp)
      simp -implicitDefEqProofs (disch := omega) [c_Spoil, k_Spoil, hg, ofCellsI_ints, hl2, hz, hcl, hid]
      refine .thenT ?_
      simp -implicitDefEqProofs (disch := omega)
      refine .then (.thenT ?_)
      simp -implicitDefEqProofs (disch := omega)
      refine .cut (grow_block (N := 70) (n := a.length) (X := fun _ => True) (LB := [7, 30, 29, 28, 27, 26]) (by omega) (by omega) (.inr ⟨id, ver, _, rfl, hgs, by simp⟩) rfl (fun _ _ _ _ _ _ => trivial) (fun _ _ _ _ => trivial) (body_byte u23 (by kernel_rfl) v5 u3 u5 (by omega) (by decide)) (by simp) (by decide) (by decide)) ?_
      show ToW _ _ _ _ _ _ _ _
      refine .of ?_
      have htk : (objs.set id (AO.cells (ints .u8 (a.map spF)) ver)).take objs.length = objs.set id (AO.cells (ints .u8 (a.map spF)) ver) := List.take_of_length_le (by simp)
      simp -implicitDefEqProofs (disch := omega) [grownEnv, wd, ud, un, c_TurnedR, k_TurnedR, c_SameR, k_SameR, hn2, hb2, hc2, hl, htk, hid, wrap_small]
  · cases hR)
theorem apart_two {a : List Int} {n : Nat} {u : V} (hn : n = a.length) (h0 : 0 < n) (hl : n < 140737488354000) (hu : ofInts .u8 u = some a) :
    k_Apart [.ref 0 0 0 n 1, .ref 1 0 0 n 1, u] [.cells (ints .u8 a) 0, .cells (ints .u8 a) 0] = some (.bool true, some ([.cells (ints .u8 (a.map spF)) 0, .cells (ints .u8 a) 0], 0)) := by
  subst hn
  have h1 : ofIntsR .u8 [.cells (ints .u8 a) 0, .cells (ints .u8 a) 0] (.ref 1 0 0 a.length 1) = some a := ofIntsR_ref rfl rfl
  have h2 : ofIntsR .u8 [.cells (ints .u8 (a.map spF)) 0, .cells (ints .u8 a) 0] (.ref 1 0 0 a.length 1) = some a := ofIntsR_ref rfl rfl
  have h3 : clean 2 [.cells (ints .u8 (a.map spF)) 0, .cells (ints .u8 a) 0] = true := by simp [clean]
  have hz : ¬ a.length = 0 := by omega
  have hz2 : ¬ a = [] := fun q => hz (by rw [q]; rfl)
  simp [k_Apart, con3, Ab.getObj, ofCellsI_ints, hl, h1, h2, h3, ofIntsR_of hu, hz2, bnd_pos]
theorem apart_nil {u : V} (hu : ofInts .u8 u = some []) : k_Apart [.nils, .nils, u] [] = some (.bool true, none) := by
  have h1 : ofIntsR .u8 [] V.nils = some [] := rfl
  simp [k_Apart, con3, h1, ofIntsR_of hu]
theorem apart_one {a : List Int} {cs : List V} {ver n : Nat} {u : V} (hcs : norefs 3 cs = true) (hn : n = a.length) (h0 : 0 < n) (hl : n < 140737488354000) (hu : ofInts .u8 u = some a) :
    k_Apart [.ref 1 0 0 n 1, .ref 2 0 0 n 1, u] [.cells cs ver, .cells (ints .u8 a) 0, .cells (ints .u8 a) 0] = some (.bool true, some ([.cells cs ver, .cells (ints .u8 (a.map spF)) 0, .cells (ints .u8 a) 0], 1)) := by
  subst hn
  have h1 : ofIntsR .u8 [.cells cs ver, .cells (ints .u8 a) 0, .cells (ints .u8 a) 0] (.ref 2 0 0 a.length 1) = some a := ofIntsR_ref rfl rfl
  have h2 : ofIntsR .u8 [.cells cs ver, .cells (ints .u8 (a.map spF)) 0, .cells (ints .u8 a) 0] (.ref 2 0 0 a.length 1) = some a := ofIntsR_ref rfl rfl
  have h3 : clean 3 [.cells cs ver, .cells (ints .u8 (a.map spF)) 0, .cells (ints .u8 a) 0] = true := by simp [clean, hcs]
  have hz : ¬ a.length = 0 := by omega
  have hz2 : ¬ a = [] := fun q => hz (by rw [q]; rfl)
  simp [k_Apart, con3, Ab.getObj, ofCellsI_ints, hl, h1, h2, h3, ofIntsR_of hu, hz2, bnd_pos]

end Go.Proofs.Ytpfkebjjbhnehaa.B
set_option maxRecDepth 20000
set_option maxHeartbeats 1000000
namespace Go.Proofs.Ytpfkebjjbhnehaa.B
open Go Go.Ab
def divs : Nat → Int → Int | 0, v => v | i + 1, v => IntKind.u64.wrap ((divs i v).tdiv 256)
def lowZ (n : Nat) (v : Int) : List Int := (List.range n).map fun i => IntKind.u8.wrap ((divs i v).tmod 256)
theorem lowZ_len (n : Nat) (v : Int) : (lowZ n v).length = n := by simp [lowZ]
theorem lowZ_succ (n : Nat) (v : Int) : lowZ (n + 1) v = lowZ n v ++ [IntKind.u8.wrap ((divs n v).tmod 256)] := by simp [lowZ, List.range_succ]
noncomputable def k_Low : Ab.Spec := con2 (ofInt .u64) (ofInt .i64) fun v n _ => bnd n.toNat 140737488355300 (some (.lst (.fresh 1 false) (ints .u8 (lowZ n.toNat v)) n.toNat, none))
noncomputable def T_Low : CallF := withF T_Apart 53 k_Low
theorem T_Low_ok : CallOk Try.prog T_Low := con_of (A := annOf [7] [] [] false []) fit T_Apart_ok (fn := Try.f53) (by kernel_rfl) (by kernel_rfl) (by
  intro args objs r h0
  obtain ⟨_, _, v, n, rfl, ha, hb, hR⟩ := con2_inv h0
  obtain rfl := ofInt_inv ha
  obtain rfl := ofInt_inv hb
  obtain ⟨hl, hR⟩ := bnd_inv hR
  cases hR
  refine .go _ rfl rfl ?_
  simp [blit0]
  refine .up n.toNat (fun i s => s.env 0 = .int .u64 (divs i v) ∧ s.env 1 = .int .i64 n ∧ s.env 5 = .lst (.tok 0 1) (ints .u8 (lowZ i v)) i ∧ s.env 6 = .int .i64 i ∧ s.toks = [i] ∧ s.objs = objs ∧ s.low = objs.length) (by simp [ints_nil, divs, lowZ]) ?_
  rintro i s hi ⟨h0, h1, h5, h6, ht, ho, hlo⟩
  rcases Nat.lt_or_ge i n.toNat with h | h
  · have e := lowZ_succ i v
    have hn : (i : Int) < n := by omega
    simp (disch := omega) [h0, h1, h5, h6, ht, ho, hlo, blit1, e, wrap_small, Nat.mod_one, lowZ_len, convV, divs]
    exact hn
  · obtain rfl : i = n.toNat := by omega
    simp (disch := omega) [h0, h1, h5, h6, ht, ho, hlo, lowZ_len])

def vstep (v c : Int) : Int := IntKind.u64.wrap (IntKind.u64.wrap (v * 256) + IntKind.u64.wrap c)
def valZ (l : List Int) : Int := l.foldr (fun c v => vstep v c) 0
def canV (l : List Int) (at_ n : Int) : Bool := decide (0 ≤ at_ ∧ n ≤ l.length ∧ at_ ≤ (l.length : Int) - n)
noncomputable def k_Value : Ab.Spec := con3 (ofInts .u8) (ofInt .i64) (ofInt .i64) fun l p n _ => bnd l.length 140737488355300 (if 0 ≤ n ∧ n < 140737488355300 then some (if canV l p n = true then .tup [.int .u64 (valZ ((l.drop p.toNat).take n.toNat)), .bool true] else .tup [.int .u64 0, .bool false], none) else none)
noncomputable def T_Value : CallF := withF T_Low 55 k_Value
theorem T_Value_ok : CallOk Try.prog T_Value := con_of (A := annOf [] [] [] false []) fit T_Low_ok (fn := Try.f55) (by kernel_rfl) (by kernel_rfl) (by
  intro args objs r h0
  obtain ⟨v, _, _, l, p, n, rfl, ha, hb, hc, hR⟩ := con3_inv h0
  obtain rfl := ofInt_inv hb
  obtain rfl := ofInt_inv hc
  obtain ⟨hl, hR⟩ := bnd_inv hR
  split at hR
  case isFalse => cases hR
  rename_i hn
  obtain ⟨hn0, hn1⟩ := hn
  cases hR
  obtain ⟨vd, vn, vi, -⟩ := bs ha
  have hw : IntKind.i64.wrap ((l.length : Int) - n) = (l.length : Int) - n := wrap_small (by omega) (by omega)
  refine .go _ rfl rfl ?_
  by_cases h1 : p < 0
  · have hcan : canV l p n = false := by simp [canV]; omega
    simp (disch := omega) [vn, hcan]
  by_cases h2 : n > l.length
  · have hcan : canV l p n = false := by simp [canV]; omega
    simp (disch := omega) [vn, hcan]
  by_cases h3 : p > (l.length : Int) - n
  · have hcan : canV l p n = false := by simp [canV]; omega
    simp (disch := omega) [vn, hcan, hw]
  have hcan : canV l p n = true := by simp [canV]; omega
  obtain ⟨q, rfl⟩ := Int.eq_ofNat_of_zero_le (show 0 ≤ p by omega)
  obtain ⟨m, rfl⟩ := Int.eq_ofNat_of_zero_le hn0
  simp (disch := omega) [vn, hcan, hw, wrap_small]
  refine .up m (fun i s => s.env 0 = v ∧ s.env 1 = .int .i64 q ∧ s.env 8 = .int .u64 (valZ ((l.drop (q + (m - i))).take i)) ∧ s.env 9 = .int .i64 ((m : Int) - 1 - i) ∧ s.toks = [] ∧ s.objs = objs ∧ s.low = objs.length) (by simp [valZ]) ?_
  rintro i s hi ⟨h0, h1, h8, h9, ht, ho, hlo⟩
  rcases Nat.lt_or_ge i m with h | h
  · have e : (l.drop (q + (m - (i + 1)))).take (i + 1) = nth l (q + (m - (i + 1))) :: (l.drop (q + (m - i))).take i := by
      rw [drop_nth (by omega), List.take_succ_cons, show q + (m - (i + 1)) + 1 = q + (m - i) by omega]
    have hx : ((m : Int) - 1 - i) = ((m - (i + 1) : Nat) : Int) := by omega
    rw [hx] at h9
    have hx2 : ((m - (i + 1) : Nat) : Int) - 1 = (m : Int) - 1 - ((i : Int) + 1) := by omega
    have hx3 : q + (m - (i + 1)) < l.length := by omega
    have w1 : IntKind.i64.wrap ((q : Int) + ((m - (i + 1) : Nat) : Int)) = ((q + (m - (i + 1)) : Nat) : Int) := by rw [wrap_small (by omega) (by omega)]; omega
    have w2 : IntKind.i64.wrap (((m - (i + 1) : Nat) : Int) - 1) = (m : Int) - 1 - ((i : Int) + 1) := by rw [wrap_small (by omega) (by omega)]; omega
    obtain ⟨y, hy⟩ : ∃ y, y = m - (i + 1) := ⟨_, rfl⟩
    rw [← hy] at h9 e w1 w2 hx3
    have hi2 : i + 1 ≤ m := h
    simp (disch := omega) [h0, h1, h8, h9, ht, ho, hlo, vi, hx3, ints_nth, convV, w1, w2, h]
    rw [← hy, e]
    simp [valZ, vstep]
  · obtain rfl : i = m := by omega
    simp (disch := omega) [h0, h1, h8, h9, ht, ho, hlo])

/-! the sum's register, plain -/
def stepZ (s : Int) : Int := if Go.bits .and .u32 s 1 = 0 then s.fdiv 2 else Go.bits .xor .u32 (s.fdiv 2) 2197175160
def feedZ (s c : Int) : Int := stepZ (stepZ (stepZ (stepZ (stepZ (stepZ (stepZ (stepZ (Go.bits .xor .u32 s (IntKind.u32.wrap c)))))))))
def extZ (s : Int) : List Int → Int | [] => s | c :: l => extZ (feedZ s c) l
def notZ (s : Int) : Int := Go.bits .xor .u32 IntKind.u32.max s
def extendZ (s : Int) (l : List Int) : Int := notZ (extZ (notZ s) l)
theorem extZ_snoc (s : Int) (l : List Int) (c : Int) : extZ s (l ++ [c]) = feedZ (extZ s l) c := by
  induction l generalizing s with
  | nil => rfl
  | cons a l ih => simp only [List.cons_append, extZ, ih]
noncomputable def k_step : Ab.Spec := con1 (ofInt .u32) fun s _ => some (.int .u32 (stepZ s), none)
noncomputable def T_step : CallF := withF T_Value 58 k_step
theorem T_step_ok : CallOk Try.prog T_step := con_of (A := annOf [] [] [] false []) fit T_Value_ok (fn := Try.f58) (by kernel_rfl) (by kernel_rfl) (by
  intro args objs r h0
  obtain ⟨v, s, rfl, hs, hR⟩ := con1_inv h0
  obtain rfl := ofInt_inv hs
  cases hR
  refine .go _ rfl rfl ?_
  by_cases hc : Go.bits .and .u32 s 1 = 0
  · simp [hc, stepZ]
  · have hb : (Go.bits .and .u32 s 1 != 0) = true := by simpa using hc
    simp [hc, hb, stepZ])
noncomputable def k_feed : Ab.Spec := con2 (ofInt .u32) (ofInt .u8) fun s c _ => some (.int .u32 (feedZ s c), none)
noncomputable def T_feed : CallF := withF T_step 57 k_feed
theorem T_feed_ok : CallOk Try.prog T_feed := con_of (A := annOf [] [] [] false []) fit T_step_ok (fn := Try.f57) (by kernel_rfl) (by kernel_rfl) (by
  intro args objs r h0
  obtain ⟨v, w, s, c, rfl, hs, hc, hR⟩ := con2_inv h0
  obtain rfl := ofInt_inv hs
  obtain rfl := ofInt_inv hc
  cases hR
  exact .seg 40 [(4, .int .u32 (feedZ s c))] (toks' := []) (objs' := objs) (low' := objs.length) rfl (.inr rfl) (by kernel_rfl) (by intro e'; simp [upds, upd, finish, Try.f57]))
noncomputable def k_Extend : Ab.Spec := con2 (ofInt .u32) (ofInts .u8) fun s l _ => bnd l.length 140737488355328 (some (.int .u32 (extendZ s l), none))
noncomputable def T_Extend : CallF := withF T_feed 56 k_Extend
theorem T_Extend_ok : CallOk Try.prog T_Extend := con_of (A := annOf [] [] [] false []) fit T_feed_ok (fn := Try.f56) (by kernel_rfl) (by kernel_rfl) (by
  intro args objs r h0
  have c_feed : ∀ a o, T_feed 57 a o = k_feed a o := fun _ _ => rfl
  obtain ⟨v, w, s, l, rfl, hs, hl, hR⟩ := con2_inv h0
  obtain rfl := ofInt_inv hs
  obtain ⟨hb, hR⟩ := bnd_inv hR
  cases hR
  obtain ⟨wd, wn, wi, -⟩ := bs hl
  refine .go _ rfl rfl ?_
  simp [wn]
  refine .up l.length (fun i s' => s'.env 5 = .int .u32 (extZ (notZ s) (l.take i)) ∧ s'.env 10 = w ∧ s'.env 11 = .int .i64 l.length ∧ s'.env 12 = .int .i64 i ∧ s'.toks = [] ∧ s'.objs = objs ∧ s'.low = objs.length) (by simp [extZ, notZ]) ?_
  rintro i s' hi ⟨h5, h10, h11, h12, ht, ho, hlo⟩
  rcases Nat.lt_or_ge i l.length with h | h
  · have e := take_nth h
    simp (disch := omega) [h5, h10, h11, h12, ht, ho, hlo, wi, h, c_feed, k_feed, ints_nth, e, extZ_snoc, wrap_small]
  · obtain rfl : i = l.length := by omega
    simp [h5, h10, h11, h12, ht, ho, hlo, extendZ, notZ])
/-! the sum of parts -/
def sumZ (ls : List (List Int)) : Int := ls.foldl extendZ 0
noncomputable def k_Sum : Ab.Spec := con1 (ofList (ofInts .u8)) fun ls _ => bnd ls.length 140737488355328 (if ∀ l ∈ ls, l.length < 140737488355328 then some (.int .u32 (sumZ ls), none) else none)
noncomputable def T_Sum : CallF := withF T_Extend 49 k_Sum
theorem T_Sum_ok : CallOk Try.prog T_Sum := con_of (A := annOf [] [] [] false []) fit T_Extend_ok (fn := Try.f49) (by kernel_rfl) (by kernel_rfl) (by
  intro args objs r h0
  have c_Extend : ∀ a o, T_Extend 56 a o = k_Extend a o := fun _ _ => rfl
  obtain ⟨v, ls, rfl, hs, hR⟩ := con1_inv h0
  obtain ⟨hl, hR⟩ := bnd_inv hR
  split at hR
  case isFalse => cases hR
  rename_i hls
  cases hR
  obtain ⟨cs, hv, hn, hc⟩ := ofList_inv hs
  have vn := hv.size u22
  have vi := hv.idx u22 z23
  refine .go _ rfl rfl ?_
  simp [vn]
  refine .up ls.length (fun i s => s.env 3 = .int .u32 (sumZ (ls.take i)) ∧ s.env 6 = v ∧ s.env 7 = .int .i64 ls.length ∧ s.env 8 = .int .i64 i ∧ s.toks = [] ∧ s.objs = objs ∧ s.low = objs.length) (by simp [sumZ]) ?_
  rintro i s hi ⟨h3, h6, h7, h8, ht, ho, hlo⟩
  rcases Nat.lt_or_ge i ls.length with h | h
  · have e := take_nth h
    obtain ⟨c, hc1, hc3, hc2⟩ := hc i h
    obtain ⟨cd, -⟩ := bs hc2
    have hx := hls _ (nth_mem h)
    have e2 : sumZ (ls.take (i + 1)) = extendZ (sumZ (ls.take i)) (nth ls i) := by rw [e, sumZ, List.foldl_append]; rfl
    simp (disch := omega) [h3, h6, h7, h8, ht, ho, hlo, vi, h, hc1, hc3, cd, c_Extend, k_Extend, hc2, e2, wrap_small, Nat.mul_one]
  · obtain rfl : i = ls.length := by omega
    simp [h3, h6, h7, h8, ht, ho, hlo])
def tailZ (s : Int) : List Int := [IntKind.u8.wrap s, IntKind.u8.wrap (s.fdiv 256), IntKind.u8.wrap (s.fdiv 65536), IntKind.u8.wrap (s.fdiv 16777216)]
noncomputable def k_tail : Ab.Spec := con1 (ofInt .u32) fun s _ => some (.agg (ints .u8 (tailZ s)), none)
noncomputable def T_tail : CallF := withF T_Sum 48 k_tail
theorem T_tail_ok : CallOk Try.prog T_tail := con_of (A := annOf [] [] [] false []) fit T_Sum_ok (fn := Try.f48) (by kernel_rfl) (by kernel_rfl) (by
  intro args objs r h0
  obtain ⟨v, s, rfl, hs, hR⟩ := con1_inv h0
  obtain rfl := ofInt_inv hs
  cases hR
  refine .go _ rfl rfl ?_
  simp [convV, fillV, setCells, getObj_last, tailZ, ints])

end Go.Proofs.Ytpfkebjjbhnehaa.B
set_option maxRecDepth 20000
set_option maxHeartbeats 1000000
namespace Go.Proofs.Ytpfkebjjbhnehaa.B
open Go Go.Ab
def sealZ (l : List Int) : List Int := l ++ tailZ (sumZ [l])
theorem tailZ_len (s : Int) : (tailZ s).length = 4 := rfl
theorem tailZ_take (s : Int) : List.take 4 (tailZ s) = tailZ s := rfl
theorem sealZ_len (l : List Int) : (sealZ l).length = l.length + 4 := by simp [sealZ, tailZ_len]
theorem part1 {v : V} {l : List Int} (h : ofInts .u8 v = some l) : listV Try.prog 22 1 [(0, v)] = some ([v], 1) ∧ ofList (ofInts .u8) (.lst .frozen [v] 1) = some [l] := by
  obtain ⟨-, -, -, -, v1, v2, -⟩ := bs h
  refine ⟨by simp [listV, fillV, zeros, setCells, v1, v2], ofList_lst (ofCells_cons h rfl) rfl⟩
noncomputable def k_Seal : Ab.Spec := con1 (ofInts .u8) fun l _ => bnd l.length 140737488355000 (some (.lst (.fresh 1 false) (ints .u8 (sealZ l)) (l.length + 4), none))
noncomputable def T_Seal : CallF := withF T_tail 36 k_Seal
theorem T_Seal_ok : CallOk Try.prog T_Seal := con_of (A := annOf [11] [] [] false []) fit T_tail_ok (fn := Try.f36) (by kernel_rfl) (by kernel_rfl) (by
  intro args objs r h0
  have c_Sum : ∀ a o, T_tail 49 a o = k_Sum a o := fun _ _ => rfl
  have c_tail : ∀ a o, T_tail 48 a o = k_tail a o := fun _ _ => rfl
  obtain ⟨v, l, rfl, ha, hR⟩ := con1_inv h0
  obtain ⟨hl, hR⟩ := bnd_inv hR
  cases hR
  obtain ⟨vd, vn, vi, va, -⟩ := bs ha
  obtain ⟨p1, p2⟩ := part1 ha
  have hl2 : l.length < 140737488355328 := by omega
  refine .go _ rfl rfl ?_
  simp -implicitDefEqProofs (disch := omega) [if_pos, vn, vd, va, p1, p2, c_Sum, c_tail, k_Sum, k_tail, hl2, setCells, getObj_last, wrap_small, Nat.mod_one, sealZ, tailZ_len, tailZ_take])
def sealedB (l : List Int) : Bool := decide (4 ≤ l.length ∧ l.drop (l.length - 4) = tailZ (sumZ [l.take (l.length - 4)]))
noncomputable def k_Sealed : Ab.Spec := con1 (ofInts .u8) fun l _ => bnd l.length 140737488355000 (some (.bool (sealedB l), none))
noncomputable def T_Sealed : CallF := withF T_Seal 41 k_Sealed
theorem T_Sealed_ok : CallOk Try.prog T_Sealed := con_of (A := annOf [] [] [] false []) fit T_Seal_ok (fn := Try.f41) (by kernel_rfl) (by kernel_rfl) (by
  intro args objs r h0
  have c_Sum : ∀ a o, T_Seal 49 a o = k_Sum a o := fun _ _ => rfl
  have c_tail : ∀ a o, T_Seal 48 a o = k_tail a o := fun _ _ => rfl
  obtain ⟨v, l, rfl, ha, hR⟩ := con1_inv h0
  obtain ⟨hl, hR⟩ := bnd_inv hR
  cases hR
  obtain ⟨vd, vn, -⟩ := bs ha
  have w : IntKind.i64.wrap ((l.length : Int) - 4) = (l.length : Int) - 4 := wrap_small (by omega) (by omega)
  refine .go _ rfl rfl ?_
  by_cases h : 4 ≤ l.length
  · obtain ⟨n, hn⟩ : ∃ n, l.length = n + 4 := ⟨l.length - 4, by omega⟩
    have hx : ((n + 4 : Nat) : Int) - 4 = (n : Int) := by omega
    obtain ⟨w1, c1, d1⟩ := bcut ha objs none (some (.int .i64 (n : Int))) 0 n rfl (by simp [boundV]) (by omega) (by omega)
    obtain ⟨w2, c2, d2⟩ := bcut ha objs (some (.int .i64 (n : Int))) none n (n + 4) (by simp [boundV]) (by simp [boundV, hn]) (by omega) (by omega)
    rw [List.drop_zero] at d1
    rw [← hn, List.take_length] at d2
    obtain ⟨p1, p2⟩ := part1 d1
    have hd : w2 = .lst .frozen (ints .u8 (l.drop n)) 4 := by
      rcases ofInts_inv d2 with h | ⟨-, -, h⟩
      · rw [h]; simp [hn]
      · simp [hn] at h
    obtain ⟨u1, -⟩ := bs d1
    have h4 : (l.drop n).length = 4 := by simp [hn]
    have he := eq_ints (k := .u8) (tailZ_len (sumZ [l.take n])) h4
    simp only [List.replicate] at he
    have h5 : List.take 4 (l.drop n) = l.drop n := List.take_of_length_le (by omega)
    rw [hn, hx] at w
    have hln : l.length - 4 = n := by omega
    have hl2 : n < 140737488355328 := by omega
    have hl3 : min n l.length = n := by omega
    have hb : sealedB l = decide (tailZ (sumZ [l.take n]) = l.drop n) := by
      unfold sealedB
      rw [hln]
      exact decide_eq_decide.2 ⟨fun q => q.2.symm, fun q => ⟨h, q.symm⟩⟩
    simp -implicitDefEqProofs (disch := omega) [vn, vd, w, hn, hx, c1, c2, u1, p1, p2, c_Sum, c_tail, k_Sum, k_tail, hl2, hl3, hd, h4, h5, he, hb]
  · have hb : sealedB l = false := by simp [sealedB, h]
    simp (disch := omega) [vn, vd, w, hb])

/-! the document's sum -/
def rstepZ (s : Int) : Int := if s.tmod 2 = 1 then Go.bits .xor .u32 (IntKind.u32.wrap (s.tdiv 2)) 2197175160 else IntKind.u32.wrap (s.tdiv 2)
def iterR : Nat → Int → Int | 0, z => z | n + 1, z => rstepZ (iterR n z)
def rfeedZ (s c : Int) : Int := iterR 8 (Go.bits .xor .u32 s (IntKind.u32.wrap c))
def rextZ (s : Int) (l : List Int) : Int := l.foldl rfeedZ s
def rsumZ (l : List Int) : Int := Go.bits .xor .u32 (rextZ 4294967295 l) 4294967295
theorem rextZ_snoc (s : Int) (l : List Int) (c : Int) : rextZ s (l ++ [c]) = rfeedZ (rextZ s l) c := by simp only [rextZ, List.foldl_append, List.foldl_cons, List.foldl_nil]
noncomputable def k_rSum : Ab.Spec := con1 (ofInts .u8) fun l _ => bnd l.length 140737488355328 (some (.int .u32 (rsumZ l), none))
noncomputable def T_rSum : CallF := withF T_Sealed 54 k_rSum
theorem T_rSum_ok : CallOk Try.prog T_rSum := con_of (A := annOf [] [] [] false []) fit T_Sealed_ok (fn := Try.f54) (by kernel_rfl) (by kernel_rfl) (by
  intro args objs r h0
  obtain ⟨v, l, rfl, ha, hR⟩ := con1_inv h0
  obtain ⟨hl, hR⟩ := bnd_inv hR
  cases hR
  obtain ⟨vd, vn, vi, -⟩ := bs ha
  refine .go _ rfl rfl ?_
  simp [vn]
  refine .up l.length (fun i s => s.env 0 = v ∧ s.env 3 = .int .u32 (rextZ 4294967295 (l.take i)) ∧ s.env 4 = .int .i64 i ∧ s.toks = [] ∧ s.objs = objs ∧ s.low = objs.length) (by simp [rextZ]) ?_
  rintro i s hi ⟨h0, h3, h4, ht, ho, hlo⟩
  rcases Nat.lt_or_ge i l.length with h | h
  · have e := take_nth h
    simp (disch := omega) [h0, h3, h4, ht, ho, hlo, vn, vi, h, ints_nth, convV]
    refine .up 8 (fun j s' => s'.env 0 = v ∧ s'.env 3 = .int .u32 (iterR j (Go.bits .xor .u32 (rextZ 4294967295 (l.take i)) (IntKind.u32.wrap (nth l i)))) ∧ s'.env 4 = .int .i64 i ∧ s'.env 5 = .int .i64 j ∧ s'.toks = [] ∧ s'.objs = objs ∧ s'.low = objs.length) (by simp [iterR, h0, h4]) ?_
    rintro j s' hj ⟨h0, h3, h4, h5, ht, ho, hlo⟩
    rcases Nat.lt_or_ge j 8 with hj | hj
    · by_cases hc : (iterR j (Go.bits .xor .u32 (rextZ 4294967295 (l.take i)) (IntKind.u32.wrap (nth l i)))).tmod 2 = 1
      · simp (disch := omega) [h0, h3, h4, h5, ht, ho, hlo, hc, hj, iterR, rstepZ, wrap_small]
      · simp (disch := omega) [h0, h3, h4, h5, ht, ho, hlo, hc, hj, iterR, rstepZ, wrap_small]
    · obtain rfl : j = 8 := by omega
      have e2 : rextZ 4294967295 (l.take (i + 1)) = iterR 8 (Go.bits .xor .u32 (rextZ 4294967295 (l.take i)) (IntKind.u32.wrap (nth l i))) := by rw [e, rextZ_snoc]; rfl
      have hi2 : i + 1 ≤ l.length := h
      simp (disch := omega) [h0, h3, h4, h5, ht, ho, hlo, e2, h, wrap_small]
  · obtain rfl : i = l.length := by omega
    simp (disch := omega) [h0, h3, h4, ht, ho, hlo, vn, rsumZ])
def rsealZ (l : List Int) : List Int := l ++ lowZ 4 (IntKind.u64.wrap (rsumZ l))
theorem rsealZ_len (l : List Int) : (rsealZ l).length = l.length + 4 := by simp [rsealZ, lowZ_len]
noncomputable def k_rSeal : Ab.Spec := con1 (ofInts .u8) fun l _ => bnd l.length 140737488355000 (some (.lst .frozen (ints .u8 (rsealZ l)) (l.length + 4), none))
noncomputable def T_rSeal : CallF := withF T_rSum 40 k_rSeal
theorem T_rSeal_ok : CallOk Try.prog T_rSeal := con_of (A := annOf [] [] [] false []) fit T_rSum_ok (fn := Try.f40) (by kernel_rfl) (by kernel_rfl) (by
  intro args objs r h0
  have c_rSum : ∀ a o, T_rSum 54 a o = k_rSum a o := fun _ _ => rfl
  have c_Low : ∀ a o, T_rSum 53 a o = k_Low a o := fun _ _ => rfl
  have c_Cat : ∀ a o, T_rSum 52 a o = k_Cat a o := fun _ _ => rfl
  obtain ⟨v, l, rfl, ha, hR⟩ := con1_inv h0
  obtain ⟨hl, hR⟩ := bnd_inv hR
  cases hR
  obtain ⟨vd, vn, vi, -⟩ := bs ha
  have h4 : ofInts .u8 (.lst .frozen (ints .u8 (lowZ 4 (IntKind.u64.wrap (rsumZ l)))) 4) = some (lowZ 4 (IntKind.u64.wrap (rsumZ l))) := ofInts_lst (by rw [lowZ_len])
  refine .go _ rfl rfl ?_
  simp (disch := (first | omega | (simp only [lowZ_len]; omega))) [vd, ha, c_rSum, c_Low, c_Cat, k_rSum, k_Low, k_Cat, convV, h4, lowZ_len, rsealZ])
def rsealedB (l : List Int) : Bool := decide (4 ≤ l.length ∧ valZ (l.drop (l.length - 4)) = IntKind.u64.wrap (rsumZ (l.take (l.length - 4))))
noncomputable def k_rSealed : Ab.Spec := con1 (ofInts .u8) fun l _ => bnd l.length 140737488355000 (some (.bool (rsealedB l), none))
noncomputable def T_rSealed : CallF := withF T_rSeal 44 k_rSealed
theorem T_rSealed_ok : CallOk Try.prog T_rSealed := con_of (A := annOf [] [] [] false []) fit T_rSeal_ok (fn := Try.f44) (by kernel_rfl) (by kernel_rfl) (by
  intro args objs r h0
  have c_rSum : ∀ a o, T_rSeal 54 a o = k_rSum a o := fun _ _ => rfl
  have c_Value : ∀ a o, T_rSeal 55 a o = k_Value a o := fun _ _ => rfl
  have c_Piece : ∀ a o, T_rSeal 45 a o = k_Piece a o := fun _ _ => rfl
  obtain ⟨v, l, rfl, ha, hR⟩ := con1_inv h0
  obtain ⟨hl, hR⟩ := bnd_inv hR
  cases hR
  obtain ⟨vd, vn, -⟩ := bs ha
  have w : IntKind.i64.wrap ((l.length : Int) - 4) = (l.length : Int) - 4 := wrap_small (by omega) (by omega)
  refine .go _ rfl rfl ?_
  by_cases h : 4 ≤ l.length
  · obtain ⟨n, hn⟩ : ∃ n, l.length = n + 4 := ⟨l.length - 4, by omega⟩
    have hx : ((n + 4 : Nat) : Int) - 4 = (n : Int) := by omega
    rw [hn, hx] at w
    have hc : canV l (n : Int) 4 = true := by simp [canV]; omega
    have hp : pieceZ l 0 (n : Int) = l.take n := by simp [pieceZ]
    have hpl : (l.take n).length = n := by simp; omega
    have h4 : ofInts .u8 (.lst .frozen (ints .u8 (l.take n)) n) = some (l.take n) := ofInts_lst hpl.symm
    have h5 : List.take 4 (l.drop n) = l.drop n := List.take_of_length_le (by simp; omega)
    have hb : rsealedB l = (valZ (l.drop n) == IntKind.u64.wrap (rsumZ (l.take n))) := by
      have hln : l.length - 4 = n := by omega
      unfold rsealedB
      rw [hln]
      by_cases hh : valZ (l.drop n) = IntKind.u64.wrap (rsumZ (l.take n)) <;> simp [hh, h]
    have hl2 : n < 140737488355328 := by omega
    have hl3 : n + 4 < 140737488355300 := by omega
    simp (disch := omega) [vn, vd, ha, w, hn, hx, c_rSum, c_Value, c_Piece, k_rSum, k_Value, k_Piece, hc, hp, hpl, h4, h5, convV, hb, hl3]
  · have hb : rsealedB l = false := by simp [rsealedB, h]
    simp (disch := omega) [vn, vd, w, hb])

end Go.Proofs.Ytpfkebjjbhnehaa.B
